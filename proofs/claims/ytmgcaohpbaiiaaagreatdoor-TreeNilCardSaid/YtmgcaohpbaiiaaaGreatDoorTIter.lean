/- Tree.walk handed a loop's yield. -/
import Derived.Test.YtmgcaohpbaiiaaaGreatDoorTPages
import Derived.Stop.RegionWithIn
set_option linter.unusedSimpArgs false
set_option linter.unusedVariables false
namespace Go.Proofs.YtmgcaohpbaiiaaaGreatDoor
open Go.RowKit Go.Maps Go.Shelf

attribute [local go_sem] Oper.semAt_some wide_room wide_fn wide_room_in wide_fn_in

def encE (x : Ent) : Value := .agg #[.string x.1, .string x.2]
section
variable {w0 w W : World} {s dk t root : Nat} {F F' : Nat → Prop} {n N : Int} {V D : Int → ByteArray} {S S1 : TS}
/-- what holds while a tree is walked over: the space, as it was; O: the blocks of the one who is told; K: what he has -/
structure JJ (w0 : World) (s dk t root : Nat) (n : Int) (V D : Int → ByteArray) (S : TS) (K : List Ent → World → (Nat → Prop) → Prop) (pre : List Ent) (W : World) (F : Nat → Prop) (N : Int) (O : Nat → Prop) : Prop where
  tin : TIn w0 W s dk F n V D N t root S
  own : ∀ b, O b → b < W.heap.size ∧ ¬ F b ∧ b ≠ t
  has : K pre W O
def KStays (K : List Ent → World → (Nat → Prop) → Prop) : Prop := ∀ pre (A B : World) O, K pre A O → A.heap.size ≤ B.heap.size → (∀ b, O b → B.heap[b]? = A.heap[b]?) → K pre B O
section
variable {K : List Ent → World → (Nat → Prop) → Prop} {pre : List Ent} {O : Nat → Prop} {B : World} {F2 : Nat → Prop} {M : Int}
theorem JJ.step (hK : KStays K) (h : JJ w0 s dk t root n V D S K pre W F N O) (k : TSt w0 W B s dk F F2 n V D M) : JJ w0 s dk t root n V D S K pre B F2 M O := by
  refine ⟨h.tin.step k h.tin.shows, fun b hb => ?_, hK pre W B O h.has k.upd.size fun b hb => k.upd.block b (h.own b hb).1 (h.own b hb).2.1⟩
  obtain ⟨h1, h2, h3⟩ := h.own b hb
  refine ⟨by have := k.upd.size; omega, fun hf => ?_, h3⟩
  rcases k.new b hf with h4 | h4
  · exact h2 h4
  · omega
theorem JJ.made (hK : KStays K) (h : JJ w0 s dk t root n V D S K pre W F N O) (hB : Below W.heap.size W B) : JJ w0 s dk t root n V D S K pre B F N O :=
  ⟨h.tin.made hB, fun b hb => by obtain ⟨h1, h2, h3⟩ := h.own b hb; exact ⟨by have := hB.size; omega, h2, h3⟩, hK pre W B O h.has hB.size fun b hb => hB.block b (h.own b hb).1⟩
end
/-- what is none of the one's who is told, and none of the space's, stays -/
def Rest (W : World) (F O : Nat → Prop) (W' : World) (F' O' : Nat → Prop) : Prop := ∀ b o, W.heap[b]? = some o → ¬ F b → ¬ O b → W'.heap[b]? = some o ∧ ¬ F' b ∧ ¬ O' b
theorem Rest.trans {A B C : World} {F1 F2 F3 O1 O2 O3 : Nat → Prop} (h : Rest A F1 O1 B F2 O2) (k : Rest B F2 O2 C F3 O3) : Rest A F1 O1 C F3 O3 := fun b o hb hf ho => by
  obtain ⟨h1, h2, h3⟩ := h b o hb hf ho
  exact k b o h1 h2 h3
/-- a round of the loop, told an entry -/
def YieldsOk (w0 : World) (s dk t root : Nat) (n : Int) (V D : Int → ByteArray) (S : TS) (K : List Ent → World → (Nat → Prop) → Prop) (Jx : World → Prop) (full : List Ent) (l : Nat) : Prop :=
  ∀ (m : Nat) pre x (W1 : World) F1 N O, pre ++ [x] <+: full → JJ w0 s dk t root n V D S K pre W1 F1 N O → YieldAt Fence.wide m Tryz.prog l #[encE x] W1 fun e W' =>
    (e = .returned (.bool true) ∧ ∃ O', JJ w0 s dk t root n V D S K (pre ++ [x]) W' F1 N O' ∧ Rest W1 F1 O W' F1 O') ∨ (e = .returned (.bool false) ∧ Jx W')
theorem yield0_any (i : Int) (W : World) : Calls Tryz.prog 73 #[.int .i64 i] W fun e w' => e = .returned (.tuple #[]) ∧ W = w' := by
  go_enter Tryz.func73, Tryz.ntmps73
  go_wp2
  go_end0
  exact ⟨rfl, rfl⟩
set_option maxRecDepth 100000 in
set_option maxHeartbeats 4000000 in
theorem twalkY_leaf {K : List Ent → World → (Nat → Prop) → Prop} {Jx : World → Prop} (hK : KStays K) (full : List Ent) (l2 : Nat) (hY : YieldsOk w0 s dk t root n V D S K Jx full l2) (at_ : Nat) (l : List Ent) (hld : loadM S at_ = some (1, l)) (hne : 0 < l.length) (deep : Int) (from_ : ByteArray) (pre : List Ent) (hpre : pre ++ l.drop (lIx l from_) <+: full)
    (W : World) (F : Nat → Prop) (N : Int) (O : Nat → Prop) (hJ : JJ w0 s dk t root n V D S K pre W F N O) (hN : N < 1000000000) (m : Nat) :
    CallsIn Fence.wide m Tryz.prog 47 #[.pointer (some ⟨t, 0, none⟩), .int .i64 at_, .int .i64 deep, .string from_, .func (.func 73) #[] #[], .func (.yield l2) #[] #[]] W fun e w' =>
      (e = .returned (.bool true) ∧ ∃ F1 O1, JJ w0 s dk t root n V D S K (pre ++ l.drop (lIx l from_)) w' F1 (N + 4) O1 ∧ Rest W F O w' F1 O1) ∨ (e = .returned (.bool false) ∧ Jx w') := by
  obtain ⟨hfine, hok⟩ := loadM_ok hJ.tin.shows hld
  have hlen := hfine.len
  have hasc := hfine.asc
  have hix := lIx_le l from_
  have hL := load_run hJ.tin.run at_ 1 l hld (by omega)
  have hml : (l.drop (lIx l from_)).length = l.length - lIx l from_ := List.length_drop
  obtain ⟨L, hLL⟩ : ∃ L, l.drop (lIx l from_) = L := ⟨_, rfl⟩
  -- behind the load: its row, the place, what may be told
  have HLD : Hid (∀ w1 F1 v, TRun w0 W w1 s dk F F1 n V D (N + 4) t root S → Row w1 F1 W.heap.size v l → ∃ g c a g2 o2, v = .slice (some ⟨g, 0, none⟩) l.length c ∧ (if c = lIx l from_ then (some ⟨g, 0, none⟩ : Option Addr) else some ⟨g, lIx l from_ * 2, none⟩) = a ∧ a = some ⟨g2, o2, none⟩ ∧ l.length ≤ c ∧ Calls Tryz.prog 40 #[.slice (some ⟨g, 0, none⟩) l.length c, .string from_] w1 fun e w2 => e = .returned (.tuple #[.int .i64 (lIx l from_ : Nat), .bool (lHas l from_)]) ∧
      (JJ w0 s dk t root n V D S K pre w2 F1 (N + 4) O ∧ (∃ ob, w2.heap[g2]? = some ob ∧ (∀ Wx, Wx.heap[g2]? = some ob → ERow Wx a L)) ∧ ¬ F1 g2 ∧ ¬ O g2 ∧ Rest W F O w2 F1 O)) := fun w1 F1 v hr row => by
    obtain ⟨g, c, a, rfl, hlc, ha, era, g2, o2, e2⟩ := row.from_ hne (lIx l from_) hix
    obtain ⟨_, _, e3, er3, -⟩ := row.parts
    simp at e3
    obtain ⟨rfl, rfl⟩ := e3
    have hg2 : g2 = g := by rw [e2] at ha; split at ha <;> simp at ha <;> exact ha.1.symm
    have hgb := row.own.lt g rfl
    have hgf := row.out g rfl
    obtain ⟨g', cur, e4, -, -, hg, -⟩ := row.own.block
    simp at e4
    subst e4
    refine ⟨g, c, a, g2, o2, rfl, ha, e2, hlc, (find_any w1 _ c l from_ er3 hasc (by omega)).mono ?_⟩
    rintro e w2 ⟨he, hB⟩
    have hj := (hJ.step hK hr.tst).made hK hB
    subst hg2
    have hg2 := (hB.block _ (lt_of hg)).trans hg
    refine ⟨he, hj, ⟨_, hg2, fun Wx hx => ?_⟩, hgf, fun ho => by have := (hJ.own _ ho).1; omega, fun b o hb hf ho => ?_⟩
    · rw [← hLL]
      exact era.keep fun g' off' e5 _ => by rw [e2] at e5; simp at e5; obtain ⟨rfl, -⟩ := e5; rw [hx, hg]
    · obtain ⟨s1, s2⟩ := hr.stays hb hf
      exact ⟨(hB.block b (lt_of s1)).trans s1, s2, ho⟩
  rw [hLL] at hml hpre ⊢
  have HAT : Hid (∀ W2 a, ERow W2 a L → ∀ k (hk : k < L.length), ∃ g3 o3, a = some ⟨g3, o3, none⟩ ∧ W2.cell? ⟨g3, o3 + k * 2, none⟩ = some (.string (L[k]'hk).1) ∧ W2.cell? ⟨g3, o3 + k * 2 + 1, none⟩ = some (.string (L[k]'hk).2)) := fun W2 a er k hk => er.at hk
  have HYK : Hid (∀ k (hk : k < L.length), (pre ++ L.take k) ++ [L[k]'hk] <+: full ∧ (pre ++ L.take k) ++ [L[k]'hk] = pre ++ L.take (k + 1)) := fun k hk => by
    have e : (pre ++ L.take k) ++ [L[k]'hk] = pre ++ L.take (k + 1) := by rw [List.append_assoc, ← List.take_succ_eq_append_getElem hk]
    refine ⟨?_, e⟩
    rw [e]
    exact List.IsPrefix.trans (List.prefix_append_right_inj pre |>.2 (List.take_prefix _ _)) hpre
  have HTA : Hid (L.take L.length = L ∧ L.take 0 = []) := ⟨List.take_length, rfl⟩
  clear hJ hld hfine hok hasc hLL hpre
  obtain ⟨q, hq⟩ : ∃ q, Hid (L.length = q) := ⟨_, Lib.hid rfl⟩
  rw [hq.out] at hml
  generalize lHas l from_ = hb at *
  generalize lIx l from_ = ix at *
  generalize l.length = mm at *
  have z1 : ix ≤ mm := hix
  have z2 : (ix : Int) ≤ (mm : Int) := by omega
  refine callsIn_of_wp Tryz.func47 rfl trivial ?_ rfl
  simp only [Tryz.ntmps47, List.size_toArray, List.length_cons, List.length_nil, Nat.reduceAdd, Nat.reduceSub, Array.replicate_succ, Array.replicate_zero, List.push_toArray, List.append_toArray, List.nil_append, List.cons_append]
  gi_wp2
  refine (callsIn_wide.2 (yield0_any at_ W)).mono ?_
  rintro e w' ⟨rfl, rfl⟩
  gi_wp2
  refine (callsIn_wide.2 hL).mono ?_
  rintro e w1 ⟨F1, v, rfl, hr1, row1, -⟩
  obtain ⟨g, c, a, g2, o2, rfl, ha, rfl, hlc, hfd⟩ := HLD.out w1 F1 v hr1 row1
  have z3 : mm ≤ c := hlc
  clear hL HLD hr1 row1
  gi_wp2
  refine (callsIn_wide.2 hfd).mono ?_
  rintro e w2 ⟨rfl, hj2, ⟨ob, hob, hrow⟩, hg1, hg2, hrest⟩
  have HJ2 := Lib.hid hj2
  have HROW := Lib.hid hrow
  have HB2 : Hid (w2.heap[g2]? = some ob) := hob
  have HG2 : Hid (¬ O g2) := hg2
  have HR2 := Lib.hid hrest
  have HG1 : Hid (¬ F1 g2) := hg1
  clear hfd hj2 hrow hob hg2 hrest hg1
  have HML := Lib.hid hml
  clear hml
  gi_wp2
  gi_loopw [42] (fun u wr => ∃ (k : Nat) (O' : Nat → Prop), u = .int .i64 k ∧ k ≤ q ∧ Hid (JJ w0 s dk t root n V D S K (pre ++ L.take k) wr F1 (N + 4) O') ∧ Hid (wr.heap[g2]? = some ob) ∧ Hid (¬ O' g2) ∧ Hid (Rest W F O wr F1 O')) (fun u _ => q - (intOf u).toNat)
  case atStart => exact ⟨0, O, rfl, Nat.zero_le _, by rw [HTA.out.2, List.append_nil]; exact HJ2, HB2, HG2, HR2⟩
  case round =>
    obtain ⟨k, O', rfl, hk, HJ, HB, HG, HR⟩ := hrel
    by_cases hlt : k < q
    · have hlt' : k < L.length := by rw [hq.out]; exact hlt
      have hltm : k < mm - ix := by have := HML.out; omega
      obtain ⟨g3, o3, e3, c0, c1⟩ := HAT.out wr _ (HROW.out wr HB.out) k hlt'
      simp at e3
      obtain ⟨rfl, rfl⟩ := e3
      obtain ⟨hp1, hp2⟩ := HYK.out k hlt'
      have hBx : Below wr.heap.size wr (wr.alloc (boxE L[k].1 L[k].2)) := (Below.refl _ wr).alloc (Nat.le_refl _) _
      obtain ⟨fn, tmps, assign, body, hy, hRd⟩ := hY (m - 1) _ _ _ _ _ _ hp1 (HJ.out.made hK hBx)
      have HG3 : Hid ((wr.alloc (boxE L[k].1 L[k].2)).heap[g2]? = some ob) := (hBx.block _ (lt_of HB.out)).trans HB.out
      have HR3 : Hid (Rest W F O (wr.alloc (boxE L[k].1 L[k].2)) F1 O') := fun b o hb hf ho => by
        obtain ⟨r1, r2, r3⟩ := HR.out b o hb hf ho
        exact ⟨(hBx.block b (lt_of r1)).trans r1, r2, r3⟩
      rw [hp2] at hRd
      unfold encE at hy
      clear HJ2 HB2 HG2 HR2 HJ HB HR hp1 hp2 hBx HAT HYK
      generalize L[k].1 = x at *
      generalize L[k].2 = y at *
      gi_wp2
      refine hRd.mono ?_
      rintro e W3 (⟨rfl, O3, hj3, hr3⟩ | ⟨rfl, hx3⟩)
      · obtain ⟨s1, -, s3⟩ := hr3 _ _ HG3.out HG1.out HG.out
        have HJ3 := Lib.hid hj3
        have HS1 : Hid (W3.heap[g2]? = some ob) := s1
        have HS3 : Hid (¬ O3 g2) := s3
        have HR4 : Hid (Rest W F O W3 F1 O3) := HR3.out.trans hr3
        clear hj3 hr3 s1 s3 HG3 HR3
        gi_wp2
        go_roundw
        case rel => exact ⟨k + 1, O3, by go_num, by omega, HJ3, HS1, HS3, HR4⟩
        case measure => simp [intOf]; omega
      · gi_wp2
        go_ret
        exact .inr ⟨rfl, hx3⟩
    · have hltm : ¬ k < mm - ix := by have := HML.out; omega
      obtain rfl : k = q := by omega
      have HJ4 : Hid (JJ w0 s dk t root n V D S K (pre ++ L) wr F1 (N + 4) O') := by
        have h4 := HJ.out
        rw [← hq.out, HTA.out.1] at h4
        exact h4
      clear HJ HROW HAT HYK
      gi_wp2
      go_ret
      exact .inl ⟨rfl, F1, O', HJ4.out, HR.out⟩
end
end Go.Proofs.YtmgcaohpbaiiaaaGreatDoor
