/- Tree.walk handed a loop's yield · Tree.walk handed a loop's yield, at all depths · A range over a tree's entries. -/
import Derived.Test.YtmgcaohpbaiiaaaGreatDoorU7
import Derived.Stop.RegionWithIn
import Derived.Test.YtmgcaohpbaiiaaaGreatDoorU6
namespace Go.Proofs.YtmgcaohpbaiiaaaGreatDoor
/-! TIter -/
section
set_option linter.unusedSimpArgs false
set_option linter.unusedVariables false
open Go.RowKit Go.Maps Go.Shelf

attribute [local go_sem] Oper.semAt_some wide_room wide_fn wide_room_in wide_fn_in

def encE (x : Ent) : Value := .agg #[.string x.1, .string x.2]
section
variable {w0 w W : World} {s dk t root : Nat} {F F' : Nat → Prop} {n N : Int} {V D : Int → ByteArray} {S S1 : TS}
/-- what holds while a tree is walked over: the space, as it was; O: the blocks of the one who is told; K: what he has -/
structure JJ (w0 : World) (s dk t root : Nat) (n : Int) (V D : Int → ByteArray) (S : TS) (K : List Ent → World → (Nat → Prop) → Prop) (pre : List Ent) (W : World) (F : Nat → Prop) (N : Int) (O : Nat → Prop) : Prop where
  tin : TIn w0 W s dk F n V D N t root S
  own : ∀ b, O b → b < W.heap.size ∧ ¬ F b ∧ b ≠ t
  has : K pre W O
def KStays (K : List Ent → World → (Nat → Prop) → Prop) : Prop := ∀ pre (A B : World) O, K pre A O → A.heap.size ≤ B.heap.size → (∀ b, O b → B.heap[b]? = A.heap[b]?) → K pre B O
section
variable {K : List Ent → World → (Nat → Prop) → Prop} {pre : List Ent} {O : Nat → Prop} {B : World} {F2 : Nat → Prop} {M : Int}
theorem JJ.step (hK : KStays K) (h : JJ w0 s dk t root n V D S K pre W F N O) (k : TSt w0 W B s dk F F2 n V D M) : JJ w0 s dk t root n V D S K pre B F2 M O := by
  refine ⟨h.tin.step k h.tin.shows, fun b hb => ?_, hK pre W B O h.has k.upd.size fun b hb => k.upd.block b (h.own b hb).1 (h.own b hb).2.1⟩
  obtain ⟨h1, h2, h3⟩ := h.own b hb
  refine ⟨by have := k.upd.size; omega, fun hf => ?_, h3⟩
  rcases k.new b hf with h4 | h4
  · exact h2 h4
  · omega
theorem JJ.made (hK : KStays K) (h : JJ w0 s dk t root n V D S K pre W F N O) (hB : Below W.heap.size W B) : JJ w0 s dk t root n V D S K pre B F N O :=
  ⟨h.tin.made hB, fun b hb => by obtain ⟨h1, h2, h3⟩ := h.own b hb; exact ⟨by have := hB.size; omega, h2, h3⟩, hK pre W B O h.has hB.size fun b hb => hB.block b (h.own b hb).1⟩
end
/-- what is none of the one's who is told, and none of the space's, stays -/
def Rest (W : World) (F O : Nat → Prop) (W' : World) (F' O' : Nat → Prop) : Prop := ∀ b o, W.heap[b]? = some o → ¬ F b → ¬ O b → W'.heap[b]? = some o ∧ ¬ F' b ∧ ¬ O' b
theorem Rest.trans {A B C : World} {F1 F2 F3 O1 O2 O3 : Nat → Prop} (h : Rest A F1 O1 B F2 O2) (k : Rest B F2 O2 C F3 O3) : Rest A F1 O1 C F3 O3 := fun b o hb hf ho => by
  obtain ⟨h1, h2, h3⟩ := h b o hb hf ho
  exact k b o h1 h2 h3
/-- a round of the loop, told an entry -/
def YieldsOk (w0 : World) (s dk t root : Nat) (n : Int) (V D : Int → ByteArray) (S : TS) (K : List Ent → World → (Nat → Prop) → Prop) (Jx : World → Prop) (full : List Ent) (NX : Int) (l : Nat) : Prop :=
  ∀ (m : Nat) pre x (W1 : World) F1 N O, pre ++ [x] <+: full → JJ w0 s dk t root n V D S K pre W1 F1 N O → N ≤ NX → YieldAt Fence.wide m Tryz.prog l #[encE x] W1 fun e W' =>
    (e = .returned (.bool true) ∧ ∃ O', JJ w0 s dk t root n V D S K (pre ++ [x]) W' F1 N O' ∧ Rest W1 F1 O W' F1 O') ∨ (e = .returned (.bool false) ∧ Jx W')
theorem yield0_any (i : Int) (W : World) : Calls Tryz.prog 73 #[.int .i64 i] W fun e w' => e = .returned (.tuple #[]) ∧ W = w' := by
  go_enter Tryz.func73, Tryz.ntmps73
  go_wp2
  go_end0
  exact ⟨rfl, rfl⟩
set_option maxRecDepth 100000 in
set_option maxHeartbeats 4000000 in
theorem twalkY_leaf {K : List Ent → World → (Nat → Prop) → Prop} {Jx : World → Prop} {NX : Int} (hK : KStays K) (full : List Ent) (l2 : Nat) (hY : YieldsOk w0 s dk t root n V D S K Jx full NX l2) (at_ : Nat) (l : List Ent) (hld : loadM S at_ = some (1, l)) (hne : 0 < l.length) (deep : Int) (from_ : ByteArray) (pre : List Ent) (hpre : pre ++ l.drop (lIx l from_) <+: full)
    (W : World) (F : Nat → Prop) (N : Int) (O : Nat → Prop) (hJ : JJ w0 s dk t root n V D S K pre W F N O) (hN : N < 1000000000) (hNX : N + 4 ≤ NX) (m : Nat) :
    CallsIn Fence.wide m Tryz.prog 47 #[.pointer (some ⟨t, 0, none⟩), .int .i64 at_, .int .i64 deep, .string from_, .func (.func 73) #[] #[], .func (.yield l2) #[] #[]] W fun e w' =>
      (e = .returned (.bool true) ∧ ∃ F1 O1, JJ w0 s dk t root n V D S K (pre ++ l.drop (lIx l from_)) w' F1 (N + 4) O1 ∧ Rest W F O w' F1 O1) ∨ (e = .returned (.bool false) ∧ Jx w') := by
  obtain ⟨hfine, hok⟩ := loadM_ok hJ.tin.shows hld
  have hlen := hfine.len
  have hasc := hfine.asc
  have hix := lIx_le l from_
  have hL := load_run hJ.tin.run at_ 1 l hld (by omega)
  have hml : (l.drop (lIx l from_)).length = l.length - lIx l from_ := List.length_drop
  obtain ⟨L, hLL⟩ : ∃ L, l.drop (lIx l from_) = L := ⟨_, rfl⟩
  -- behind the load: its row, the place, what may be told
  have HLD : Hid (∀ w1 F1 v, TRun w0 W w1 s dk F F1 n V D (N + 4) t root S → Row w1 F1 W.heap.size v l → ∃ g c a g2 o2, v = .slice (some ⟨g, 0, none⟩) l.length c ∧ (if c = lIx l from_ then (some ⟨g, 0, none⟩ : Option Addr) else some ⟨g, lIx l from_ * 2, none⟩) = a ∧ a = some ⟨g2, o2, none⟩ ∧ l.length ≤ c ∧ Calls Tryz.prog 40 #[.slice (some ⟨g, 0, none⟩) l.length c, .string from_] w1 fun e w2 => e = .returned (.tuple #[.int .i64 (lIx l from_ : Nat), .bool (lHas l from_)]) ∧
      (JJ w0 s dk t root n V D S K pre w2 F1 (N + 4) O ∧ (∃ ob, w2.heap[g2]? = some ob ∧ (∀ Wx, Wx.heap[g2]? = some ob → ERow Wx a L)) ∧ ¬ F1 g2 ∧ ¬ O g2 ∧ Rest W F O w2 F1 O)) := fun w1 F1 v hr row => by
    obtain ⟨g, c, a, rfl, hlc, ha, era, g2, o2, e2⟩ := row.from_ hne (lIx l from_) hix
    obtain ⟨_, _, e3, er3, -⟩ := row.parts
    simp at e3
    obtain ⟨rfl, rfl⟩ := e3
    have hg2 : g2 = g := by rw [e2] at ha; split at ha <;> simp at ha <;> exact ha.1.symm
    have hgb := row.own.lt g rfl
    have hgf := row.out g rfl
    obtain ⟨g', cur, e4, -, -, hg, -⟩ := row.own.block
    simp at e4
    subst e4
    refine ⟨g, c, a, g2, o2, rfl, ha, e2, hlc, (find_any w1 _ c l from_ er3 hasc (by omega)).mono ?_⟩
    rintro e w2 ⟨he, hB⟩
    have hj := (hJ.step hK hr.tst).made hK hB
    subst hg2
    have hg2 := (hB.block _ (lt_of hg)).trans hg
    refine ⟨he, hj, ⟨_, hg2, fun Wx hx => ?_⟩, hgf, fun ho => by have := (hJ.own _ ho).1; omega, fun b o hb hf ho => ?_⟩
    · rw [← hLL]
      exact era.keep fun g' off' e5 _ => by rw [e2] at e5; simp at e5; obtain ⟨rfl, -⟩ := e5; rw [hx, hg]
    · obtain ⟨s1, s2⟩ := hr.stays hb hf
      exact ⟨(hB.block b (lt_of s1)).trans s1, s2, ho⟩
  rw [hLL] at hml hpre ⊢
  have HAT : Hid (∀ W2 a, ERow W2 a L → ∀ k (hk : k < L.length), ∃ g3 o3, a = some ⟨g3, o3, none⟩ ∧ W2.cell? ⟨g3, o3 + k * 2, none⟩ = some (.string (L[k]'hk).1) ∧ W2.cell? ⟨g3, o3 + k * 2 + 1, none⟩ = some (.string (L[k]'hk).2)) := fun W2 a er k hk => er.at hk
  have HYK : Hid (∀ k (hk : k < L.length), (pre ++ L.take k) ++ [L[k]'hk] <+: full ∧ (pre ++ L.take k) ++ [L[k]'hk] = pre ++ L.take (k + 1)) := fun k hk => by
    have e : (pre ++ L.take k) ++ [L[k]'hk] = pre ++ L.take (k + 1) := by rw [List.append_assoc, ← List.take_succ_eq_append_getElem hk]
    refine ⟨?_, e⟩
    rw [e]
    exact List.IsPrefix.trans (List.prefix_append_right_inj pre |>.2 (List.take_prefix _ _)) hpre
  have HTA : Hid (L.take L.length = L ∧ L.take 0 = []) := ⟨List.take_length, rfl⟩
  clear hJ hld hfine hok hasc hLL hpre
  obtain ⟨q, hq⟩ : ∃ q, Hid (L.length = q) := ⟨_, Lib.hid rfl⟩
  rw [hq.out] at hml
  generalize lHas l from_ = hb at *
  generalize lIx l from_ = ix at *
  generalize l.length = mm at *
  have z1 : ix ≤ mm := hix
  have z2 : (ix : Int) ≤ (mm : Int) := by omega
  refine callsIn_of_wp Tryz.func47 rfl trivial ?_ rfl
  simp only [Tryz.ntmps47, List.size_toArray, List.length_cons, List.length_nil, Nat.reduceAdd, Nat.reduceSub, Array.replicate_succ, Array.replicate_zero, List.push_toArray, List.append_toArray, List.nil_append, List.cons_append]
  gi_wp2
  refine (callsIn_wide.2 (yield0_any at_ W)).mono ?_
  rintro e w' ⟨rfl, rfl⟩
  gi_wp2
  refine (callsIn_wide.2 hL).mono ?_
  rintro e w1 ⟨F1, v, rfl, hr1, row1, -⟩
  obtain ⟨g, c, a, g2, o2, rfl, ha, rfl, hlc, hfd⟩ := HLD.out w1 F1 v hr1 row1
  have z3 : mm ≤ c := hlc
  clear hL HLD hr1 row1
  gi_wp2
  refine (callsIn_wide.2 hfd).mono ?_
  rintro e w2 ⟨rfl, hj2, ⟨ob, hob, hrow⟩, hg1, hg2, hrest⟩
  have HJ2 := Lib.hid hj2
  have HROW := Lib.hid hrow
  have HB2 : Hid (w2.heap[g2]? = some ob) := hob
  have HG2 : Hid (¬ O g2) := hg2
  have HR2 := Lib.hid hrest
  have HG1 : Hid (¬ F1 g2) := hg1
  clear hfd hj2 hrow hob hg2 hrest hg1
  have HML := Lib.hid hml
  clear hml
  gi_wp2
  gi_loopw [42] (fun u wr => ∃ (k : Nat) (O' : Nat → Prop), u = .int .i64 k ∧ k ≤ q ∧ Hid (JJ w0 s dk t root n V D S K (pre ++ L.take k) wr F1 (N + 4) O') ∧ Hid (wr.heap[g2]? = some ob) ∧ Hid (¬ O' g2) ∧ Hid (Rest W F O wr F1 O')) (fun u _ => q - (intOf u).toNat)
  case atStart => exact ⟨0, O, rfl, Nat.zero_le _, by rw [HTA.out.2, List.append_nil]; exact HJ2, HB2, HG2, HR2⟩
  case round =>
    obtain ⟨k, O', rfl, hk, HJ, HB, HG, HR⟩ := hrel
    by_cases hlt : k < q
    · have hlt' : k < L.length := by rw [hq.out]; exact hlt
      have hltm : k < mm - ix := by have := HML.out; omega
      obtain ⟨g3, o3, e3, c0, c1⟩ := HAT.out wr _ (HROW.out wr HB.out) k hlt'
      simp at e3
      obtain ⟨rfl, rfl⟩ := e3
      obtain ⟨hp1, hp2⟩ := HYK.out k hlt'
      have hBx : Below wr.heap.size wr (wr.alloc (boxE L[k].1 L[k].2)) := (Below.refl _ wr).alloc (Nat.le_refl _) _
      obtain ⟨fn, tmps, assign, body, hy, hRd⟩ := hY (m - 1) _ _ _ _ _ _ hp1 (HJ.out.made hK hBx) hNX
      have HG3 : Hid ((wr.alloc (boxE L[k].1 L[k].2)).heap[g2]? = some ob) := (hBx.block _ (lt_of HB.out)).trans HB.out
      have HR3 : Hid (Rest W F O (wr.alloc (boxE L[k].1 L[k].2)) F1 O') := fun b o hb hf ho => by
        obtain ⟨r1, r2, r3⟩ := HR.out b o hb hf ho
        exact ⟨(hBx.block b (lt_of r1)).trans r1, r2, r3⟩
      rw [hp2] at hRd
      unfold encE at hy
      clear HJ2 HB2 HG2 HR2 HJ HB HR hp1 hp2 hBx HAT HYK
      generalize L[k].1 = x at *
      generalize L[k].2 = y at *
      gi_wp2
      refine hRd.mono ?_
      rintro e W3 (⟨rfl, O3, hj3, hr3⟩ | ⟨rfl, hx3⟩)
      · obtain ⟨s1, -, s3⟩ := hr3 _ _ HG3.out HG1.out HG.out
        have HJ3 := Lib.hid hj3
        have HS1 : Hid (W3.heap[g2]? = some ob) := s1
        have HS3 : Hid (¬ O3 g2) := s3
        have HR4 : Hid (Rest W F O W3 F1 O3) := HR3.out.trans hr3
        clear hj3 hr3 s1 s3 HG3 HR3
        gi_wp2
        go_roundw
        case rel => exact ⟨k + 1, O3, by go_num, by omega, HJ3, HS1, HS3, HR4⟩
        case measure => simp [intOf]; omega
      · gi_wp2
        go_ret
        exact .inr ⟨rfl, hx3⟩
    · have hltm : ¬ k < mm - ix := by have := HML.out; omega
      obtain rfl : k = q := by omega
      have HJ4 : Hid (JJ w0 s dk t root n V D S K (pre ++ L) wr F1 (N + 4) O') := by
        have h4 := HJ.out
        rw [← hq.out, HTA.out.1] at h4
        exact h4
      clear HJ HROW HAT HYK
      gi_wp2
      go_ret
      exact .inl ⟨rfl, F1, O', HJ4.out, HR.out⟩
end
end
/-! TIterB -/
section
set_option linter.unusedSimpArgs false
set_option linter.unusedVariables false
open Go.RowKit Go.Maps Go.Shelf

attribute [local go_sem] Oper.semAt_some wide_room wide_fn wide_room_in wide_fn_in
section
variable {w0 w W : World} {s dk t root : Nat} {F F' : Nat → Prop} {n N : Int} {V D : Int → ByteArray} {S S1 : TS}
set_option maxRecDepth 100000 in
set_option maxHeartbeats 4000000 in
theorem twalkY_nil {K : List Ent → World → (Nat → Prop) → Prop} {Jx : World → Prop} (hK : KStays K) (full : List Ent) (l2 : Nat) (at_ : Nat) (hld : loadM S at_ = some (1, [])) (deep : Int) (from_ : ByteArray) (pre : List Ent)
    (W : World) (F : Nat → Prop) (N : Int) (O : Nat → Prop) (hJ : JJ w0 s dk t root n V D S K pre W F N O) (hN : N < 1000000000) (m : Nat) :
    CallsIn Fence.wide m Tryz.prog 47 #[.pointer (some ⟨t, 0, none⟩), .int .i64 at_, .int .i64 deep, .string from_, .func (.func 73) #[] #[], .func (.yield l2) #[] #[]] W fun e w' =>
      (e = .returned (.bool true) ∧ ∃ F1 O1, JJ w0 s dk t root n V D S K pre w' F1 (N + 4) O1 ∧ Rest W F O w' F1 O1) ∨ (e = .returned (.bool false) ∧ Jx w') := by
  have hL := load_run hJ.tin.run at_ 1 [] hld (by omega)
  have HLD : Hid (∀ w1 F1 v, TRun w0 W w1 s dk F F1 n V D (N + 4) t root S → Row w1 F1 W.heap.size v [] → ∃ ao c, v = .slice ao 0 c ∧ (∀ a, ao = some a → ∃ g, a = ⟨g, 0, none⟩) ∧ (ao = none → c = 0) ∧ Calls Tryz.prog 40 #[.slice ao 0 c, .string from_] w1 fun e w2 => e = .returned (.tuple #[.int .i64 0, .bool false]) ∧ JJ w0 s dk t root n V D S K pre w2 F1 (N + 4) O ∧ Rest W F O w2 F1 O) := fun w1 F1 v hr row => by
    obtain ⟨ao, c, rfl, er, -, hno, -⟩ := row.parts
    refine ⟨ao, c, rfl, fun a e => ?_, fun e => (hno e).2, (find_any w1 ao c [] from_ er rfl (by simp)).mono ?_⟩
    · subst e
      obtain ⟨g', cur, e2, -⟩ := row.own.block
      exact ⟨g', e2⟩
    · rintro e w2 ⟨he, hB⟩
      refine ⟨he, (hJ.step hK hr.tst).made hK hB, fun b o hb hf ho => ?_⟩
      obtain ⟨s1, s2⟩ := hr.stays hb hf
      exact ⟨(hB.block b (lt_of s1)).trans s1, s2, ho⟩
  clear hJ hld
  refine callsIn_of_wp Tryz.func47 rfl trivial ?_ rfl
  simp only [Tryz.ntmps47, List.size_toArray, List.length_cons, List.length_nil, Nat.reduceAdd, Nat.reduceSub, Array.replicate_succ, Array.replicate_zero, List.push_toArray, List.append_toArray, List.nil_append, List.cons_append]
  gi_wp2
  refine (callsIn_wide.2 (yield0_any at_ W)).mono ?_
  rintro e w' ⟨rfl, rfl⟩
  gi_wp2
  refine (callsIn_wide.2 hL).mono ?_
  rintro e w1 ⟨F1, v, rfl, hr1, row1, -⟩
  obtain ⟨ao, c, rfl, hao, hno, hfd⟩ := HLD.out w1 F1 v hr1 row1
  clear hL HLD hr1 row1
  gi_wp2
  refine (callsIn_wide.2 hfd).mono ?_
  rintro e w2 ⟨rfl, hj2, hrest⟩
  have HJ2 := Lib.hid hj2
  have HR2 := Lib.hid hrest
  clear hfd hj2 hrest
  have z0 : (0 : Int) ≤ (c : Int) := by omega
  cases ao with
  | none =>
    obtain rfl := hno rfl
    gi_wp2
    gi_loopw [42] (fun u wr => u = .int .i64 0 ∧ wr = w2) (fun _ _ => 0)
    case atStart => exact ⟨rfl, rfl⟩
    case round =>
      obtain ⟨rfl, rfl⟩ := hrel
      gi_wp2
      go_ret
      exact .inl ⟨rfl, F1, O, HJ2.out, HR2.out⟩
  | some a =>
    obtain ⟨g, rfl⟩ := hao a rfl
    clear hno hao
    gi_wp2
    gi_loopw [42] (fun u wr => u = .int .i64 0 ∧ wr = w2) (fun _ _ => 0)
    case atStart => exact ⟨rfl, rfl⟩
    case round =>
      obtain ⟨rfl, rfl⟩ := hrel
      gi_wp2
      go_ret
      exact .inl ⟨rfl, F1, O, HJ2.out, HR2.out⟩
/-- what a walk does with so many steps down at hand -/
def WalkY (w0 : World) (s dk t root : Nat) (n : Int) (V D : Int → ByteArray) (S : TS) (K : List Ent → World → (Nat → Prop) → Prop) (Jx : World → Prop) (full : List Ent) (NX : Int) (l2 : Nat) (from_ : ByteArray) (d : Nat) : Prop :=
  ∀ (at_ : Nat) (es : List Ent) (pgs : List Nat) (pre : List Ent) (W : World) (F : Nat → Prop) (N : Int) (O : Nat → Prop) (m : Nat), walkM from_ d S at_ = some (es, pgs) → pre ++ es <+: full → JJ w0 s dk t root n V D S K pre W F N O → d ≤ 66 → N + 4 * (pgs.length : Int) < 1000000000 → N + 4 * (pgs.length : Int) ≤ NX →
    CallsIn Fence.wide m Tryz.prog 47 #[.pointer (some ⟨t, 0, none⟩), .int .i64 at_, .int .i64 (66 - (d : Int)), .string from_, .func (.func 73) #[] #[], .func (.yield l2) #[] #[]] W fun e w' =>
      (e = .returned (.bool true) ∧ ∃ F1 O1, JJ w0 s dk t root n V D S K (pre ++ es) w' F1 (N + 4 * (pgs.length : Int)) O1 ∧ Rest W F O w' F1 O1) ∨ (e = .returned (.bool false) ∧ Jx w')
theorem walks_step {from_ : ByteArray} {S : TS} {g : Nat → Option (List Ent × List Nat)} {L : List Ent} {k : Nat} (hk : k < L.length) {rs : List Ent} {rp : List Nat} (h : walkM.walksM from_ S g (L.drop k) = some (rs, rp)) :
    ∃ e1 p1 rs2 rp2, ¬ (L[k]).2.size < 2 ∧ g (pgN (L[k]).2) = some (e1, p1) ∧ walkM.walksM from_ S g (L.drop (k + 1)) = some (rs2, rp2) ∧ rs = e1 ++ rs2 ∧ rp = p1 ++ rp2 := by
  rw [List.drop_eq_getElem_cons hk] at h
  unfold walkM.walksM at h
  split at h
  · cases h
  rename_i hsz
  simp only [Option.bind_eq_some_iff, Option.map_eq_some_iff, Prod.mk.injEq] at h
  obtain ⟨a, ha, b, hb, h1, h2⟩ := h
  exact ⟨a.1, a.2, b.1, b.2, hsz, ha, hb, h1.symm, h2.symm⟩
set_option maxRecDepth 100000 in
set_option maxHeartbeats 4000000 in
theorem twalkY_branch {K : List Ent → World → (Nat → Prop) → Prop} {Jx : World → Prop} {NX : Int} (hK : KStays K) (full : List Ent) (l2 : Nat) (from_ : ByteArray) (d : Nat) (IH : WalkY w0 s dk t root n V D S K Jx full NX l2 from_ d) (at_ : Nat) (l : List Ent) (hld : loadM S at_ = some (2, l))
    (es : List Ent) (pgs : List Nat) (hw : walkM.walksM from_ S (walkM from_ d S) (l.drop (cIx l from_)) = some (es, pgs)) (pre : List Ent) (hpre : pre ++ es <+: full)
    (W : World) (F : Nat → Prop) (N : Int) (O : Nat → Prop) (hJ : JJ w0 s dk t root n V D S K pre W F N O) (hd : d + 1 ≤ 66) (hN : N + 4 + 4 * (pgs.length : Int) < 1000000000) (hNX : N + 4 + 4 * (pgs.length : Int) ≤ NX) (m : Nat) :
    CallsIn Fence.wide m Tryz.prog 47 #[.pointer (some ⟨t, 0, none⟩), .int .i64 at_, .int .i64 (66 - ((d + 1 : Nat) : Int)), .string from_, .func (.func 73) #[] #[], .func (.yield l2) #[] #[]] W fun e w' =>
      (e = .returned (.bool true) ∧ ∃ F1 O1, JJ w0 s dk t root n V D S K (pre ++ es) w' F1 (N + 4 + 4 * (pgs.length : Int)) O1 ∧ Rest W F O w' F1 O1) ∨ (e = .returned (.bool false) ∧ Jx w') := by
  obtain ⟨hfine, hok⟩ := loadM_ok hJ.tin.shows hld
  have hlen := hfine.len
  have hasc := hfine.asc
  have hne : 0 < l.length := List.length_pos_iff.2 fun e => (loadM_some hld).2 ⟨rfl, e⟩
  have hix : cIx l from_ ≤ l.length := by
    have := lIx_le l from_
    unfold cIx
    split <;> omega
  have hL := load_run hJ.tin.run at_ 2 l hld (by omega)
  have hml : (l.drop (cIx l from_)).length = l.length - cIx l from_ := List.length_drop
  have hall : ∀ q ∈ l.drop (cIx l from_), q.1.size ≤ 32 ∧ q.2.size ≤ 64 := fun q hq => hfine.all q (List.mem_of_mem_drop hq)
  obtain ⟨L, hLL⟩ : ∃ L, l.drop (cIx l from_) = L := ⟨_, rfl⟩
  rw [hLL] at hw hall hml
  have HLD : Hid (∀ w1 F1 v, TRun w0 W w1 s dk F F1 n V D (N + 4) t root S → Row w1 F1 W.heap.size v l → ∃ g c a g2 o2, v = .slice (some ⟨g, 0, none⟩) l.length c ∧ (if c = cIx l from_ then (some ⟨g, 0, none⟩ : Option Addr) else some ⟨g, cIx l from_ * 2, none⟩) = a ∧ a = some ⟨g2, o2, none⟩ ∧ l.length ≤ c ∧ Calls Tryz.prog 42 #[.slice (some ⟨g, 0, none⟩) l.length c, .string from_] w1 fun e w2 => e = .returned (.int .i64 (cIx l from_ : Nat)) ∧
      (JJ w0 s dk t root n V D S K pre w2 F1 (N + 4) O ∧ (∃ ob, w2.heap[g2]? = some ob ∧ (∀ Wx, Wx.heap[g2]? = some ob → ERow Wx a L)) ∧ ¬ F1 g2 ∧ ¬ O g2 ∧ Rest W F O w2 F1 O)) := fun w1 F1 v hr row => by
    obtain ⟨g, c, a, rfl, hlc, ha, era, g2, o2, e2⟩ := row.from_ hne (cIx l from_) hix
    obtain ⟨_, _, e3, er3, -⟩ := row.parts
    simp at e3
    obtain ⟨rfl, rfl⟩ := e3
    have hg2 : g2 = g := by rw [e2] at ha; split at ha <;> simp at ha <;> exact ha.1.symm
    have hgb := row.own.lt g rfl
    have hgf := row.out g rfl
    obtain ⟨g', cur, e4, -, -, hg, -⟩ := row.own.block
    simp at e4
    subst e4
    refine ⟨g, c, a, g2, o2, rfl, ha, e2, hlc, (child_any w1 _ c l from_ er3 hasc (by omega)).mono ?_⟩
    rintro e w2 ⟨he, hB⟩
    have hj := (hJ.step hK hr.tst).made hK hB
    subst hg2
    have hg2 := (hB.block _ (lt_of hg)).trans hg
    refine ⟨he, hj, ⟨_, hg2, fun Wx hx => ?_⟩, hgf, fun ho => by have := (hJ.own _ ho).1; omega, fun b o hb hf ho => ?_⟩
    · rw [← hLL]
      exact era.keep fun g' off' e5 _ => by rw [e2] at e5; simp at e5; obtain ⟨rfl, -⟩ := e5; rw [hx, hg]
    · obtain ⟨s1, s2⟩ := hr.stays hb hf
      exact ⟨(hB.block b (lt_of s1)).trans s1, s2, ho⟩
  have HAT : Hid (∀ W2 a, ERow W2 a L → ∀ k (hk : k < L.length), ∃ g3 o3, a = some ⟨g3, o3, none⟩ ∧ W2.cell? ⟨g3, o3 + k * 2, none⟩ = some (.string (L[k]'hk).1) ∧ W2.cell? ⟨g3, o3 + k * 2 + 1, none⟩ = some (.string (L[k]'hk).2)) := fun W2 a er k hk => er.at hk
  -- one child
  have HST : Hid (∀ (k : Nat) (hk : k < L.length) (dn : List Ent) (dp : Nat) (rs : List Ent) (rp : List Nat), walkM.walksM from_ S (walkM from_ d S) (L.drop k) = some (rs, rp) → es = dn ++ rs → pgs.length = dp + rp.length → ∀ (W2 : World) (F2 : Nat → Prop) (O2 : Nat → Prop) (m : Nat), JJ w0 s dk t root n V D S K (pre ++ dn) W2 F2 (N + 4 + 4 * (dp : Int)) O2 →
      d ≠ 0 ∧ (∀ W3, Calls Tryz.prog 41 #[.agg #[.string (L[k]'hk).1, .string (L[k]'hk).2]] W3 fun e w' => e = .returned (.int .i64 (pgN (L[k]'hk).2 : Nat)) ∧ Below W3.heap.size W3 w') ∧
      ∃ dn2 dp2 rs2 rp2, walkM.walksM from_ S (walkM from_ d S) (L.drop (k + 1)) = some (rs2, rp2) ∧ es = dn2 ++ rs2 ∧ pgs.length = dp2 + rp2.length ∧
        ∀ W3, Below W2.heap.size W2 W3 → ∀ m, CallsIn Fence.wide m Tryz.prog 47 #[.pointer (some ⟨t, 0, none⟩), .int .i64 (pgN (L[k]'hk).2 : Nat), .int .i64 (66 - (d : Int)), .string from_, .func (.func 73) #[] #[], .func (.yield l2) #[] #[]] W3 fun e w' =>
          (e = .returned (.bool true) ∧ ∃ F1 O1, JJ w0 s dk t root n V D S K (pre ++ dn2) w' F1 (N + 4 + 4 * (dp2 : Int)) O1 ∧ Rest W3 F2 O2 w' F1 O1) ∨ (e = .returned (.bool false) ∧ Jx w')) := fun k hk dn dp rs rp hws he hp W2 F2 O2 m hj => by
    obtain ⟨e1, p1, rs2, rp2, hsz, hg, hws2, rfl, rfl⟩ := walks_step hk hws
    have hsz2 := hall _ (List.getElem_mem hk)
    simp only [List.length_append] at hp
    refine ⟨fun e0 => (by subst e0; simp [walkM] at hg), fun W3 => page_of _ _ W3 (by omega) (by omega), dn ++ e1, dp + p1.length, rs2, rp2, hws2, by rw [he, List.append_assoc], by omega, fun W3 hB m => ?_⟩
    have hpx : (pre ++ dn) ++ e1 <+: full := by
      refine List.IsPrefix.trans ?_ hpre
      rw [he]
      exact ⟨rs2, by simp [List.append_assoc]⟩
    refine (IH (pgN (L[k]'hk).2) e1 p1 (pre ++ dn) W3 F2 _ O2 m hg hpx (hj.made hK hB) (by omega) (by omega) (by omega)).mono ?_
    rintro e w' (⟨he, F1, O1, hj1, hr1⟩ | ⟨he, hx⟩)
    · refine .inl ⟨he, F1, O1, ?_, hr1⟩
      rw [List.append_assoc] at hj1
      have : N + 4 + 4 * ((dp + p1.length : Nat) : Int) = N + 4 + 4 * (dp : Int) + 4 * (p1.length : Int) := by push_cast; omega
      rw [this]
      exact hj1
    · exact .inr ⟨he, hx⟩
  have HEND : Hid (∀ dn dp rs rp, walkM.walksM from_ S (walkM from_ d S) (L.drop L.length) = some (rs, rp) → es = dn ++ rs → pgs.length = dp + rp.length → dn = es ∧ dp = pgs.length) := fun dn dp rs rp h he hp => by
    rw [List.drop_length] at h
    simp only [walkM.walksM, Option.some.injEq, Prod.mk.injEq] at h
    obtain ⟨rfl, rfl⟩ := h
    simp at he hp
    exact ⟨he.symm, hp.symm⟩
  have HW0 : Hid (walkM.walksM from_ S (walkM from_ d S) (L.drop 0) = some (es, pgs)) := hw
  have HDN : Hid (d ≠ 0 → ∀ W, Calls Tryz.prog 38 #[.int .i64 (66 - ((d : Int) + 1))] W fun e w' => e = .returned (.int .i64 (66 - (d : Int))) ∧ W = w') := fun hd0 W => by
    have := down_any (66 - ((d : Int) + 1)) W (by omega) (by omega)
    rw [show 66 - ((d : Int) + 1) + 1 = 66 - (d : Int) by omega] at this
    exact this
  clear hJ hld hfine hok hasc hLL hpre hw hall IH
  obtain ⟨q, hq⟩ : ∃ q, Hid (L.length = q) := ⟨_, Lib.hid rfl⟩
  rw [hq.out] at hml
  generalize cIx l from_ = ix at *
  generalize l.length = mm at *
  have z1 : ix ≤ mm := hix
  have z2 : (ix : Int) ≤ (mm : Int) := by omega
  push_cast
  refine callsIn_of_wp Tryz.func47 rfl trivial ?_ rfl
  simp only [Tryz.ntmps47, List.size_toArray, List.length_cons, List.length_nil, Nat.reduceAdd, Nat.reduceSub, Array.replicate_succ, Array.replicate_zero, List.push_toArray, List.append_toArray, List.nil_append, List.cons_append]
  gi_wp2
  refine (callsIn_wide.2 (yield0_any at_ W)).mono ?_
  rintro e w' ⟨rfl, rfl⟩
  gi_wp2
  refine (callsIn_wide.2 hL).mono ?_
  rintro e w1 ⟨F1, v, rfl, hr1, row1, -⟩
  obtain ⟨g, c, a, g2, o2, rfl, ha, rfl, hlc, hfd⟩ := HLD.out w1 F1 v hr1 row1
  have z3 : mm ≤ c := hlc
  clear hL HLD hr1 row1
  gi_wp2
  refine (callsIn_wide.2 hfd).mono ?_
  rintro e w2 ⟨rfl, hj2, ⟨ob, hob, hrow⟩, hg1, hg2, hrest⟩
  have HJ2 := Lib.hid hj2
  have HROW := Lib.hid hrow
  have HB2 : Hid (w2.heap[g2]? = some ob) := hob
  have HG2 : Hid (¬ O g2) := hg2
  have HR2 := Lib.hid hrest
  have HG1 : Hid (¬ F1 g2) := hg1
  clear hfd hj2 hrow hob hg2 hrest hg1
  have HML := Lib.hid hml
  clear hml
  gi_wp2
  gi_loopw [57] (fun u wr => ∃ (k : Nat) (dn : List Ent) (dp : Nat) (rs : List Ent) (rp : List Nat) (F' : Nat → Prop) (O' : Nat → Prop), u = .int .i64 k ∧ k ≤ q ∧ Hid (walkM.walksM from_ S (walkM from_ d S) (L.drop k) = some (rs, rp) ∧ es = dn ++ rs ∧ pgs.length = dp + rp.length) ∧ Hid (JJ w0 s dk t root n V D S K (pre ++ dn) wr F' (N + 4 + 4 * (dp : Int)) O') ∧ Hid (wr.heap[g2]? = some ob) ∧ Hid (¬ F' g2) ∧ Hid (¬ O' g2) ∧ Hid (Rest W F O wr F' O')) (fun u _ => q - (intOf u).toNat)
  case atStart => exact ⟨0, [], 0, es, pgs, F1, O, rfl, Nat.zero_le _, ⟨HW0.out, rfl, by simp⟩, by simpa using HJ2, HB2, HG1, HG2, HR2⟩
  case round =>
    obtain ⟨k, dn, dp, rs, rp, F', O', rfl, hk, HW, HJ, HB, HGF, HG, HR⟩ := hrel
    by_cases hlt : k < q
    · have hlt' : k < L.length := by rw [hq.out]; exact hlt
      have hltm : k < mm - ix := by have := HML.out; omega
      obtain ⟨g3, o3, e3, c0, c1⟩ := HAT.out wr _ (HROW.out wr HB.out) k hlt'
      simp at e3
      obtain ⟨rfl, rfl⟩ := e3
      have hBx : Below wr.heap.size wr (wr.alloc (boxE L[k].1 L[k].2)) := (Below.refl _ wr).alloc (Nat.le_refl _) _
      obtain ⟨hd0, hpg, dn2, dp2, rs2, rp2, hw2, he2, hp2, hwk⟩ := HST.out k hlt' dn dp rs rp HW.out.1 HW.out.2.1 HW.out.2.2 _ F' O' m (HJ.out.made hK hBx)
      have hpg2 := hpg (wr.alloc (boxE L[k].1 L[k].2))
      have HWK := Lib.hid hwk
      have HW2 : Hid (walkM.walksM from_ S (walkM from_ d S) (L.drop (k + 1)) = some (rs2, rp2) ∧ es = dn2 ++ rs2 ∧ pgs.length = dp2 + rp2.length) := ⟨hw2, he2, hp2⟩
      have HST3 : Hid (∀ W3, Below (wr.alloc (boxE L[k].1 L[k].2)).heap.size (wr.alloc (boxE L[k].1 L[k].2)) W3 → W3.heap[g2]? = some ob ∧ Rest W F O W3 F' O') := fun W3 hB3 => by
        have h1 := (hBx.block _ (lt_of HB.out)).trans HB.out
        refine ⟨(hB3.block _ (lt_of h1)).trans h1, fun b o hb hf ho => ?_⟩
        obtain ⟨r1, r2, r3⟩ := HR.out b o hb hf ho
        have r4 := (hBx.block b (lt_of r1)).trans r1
        exact ⟨(hB3.block b (lt_of r4)).trans r4, r2, r3⟩
      have hdn := HDN.out hd0
      clear HJ2 HB2 HG2 HR2 HJ HB HR HW hBx HAT HST hpg hwk hw2 he2 hp2 HW0
      generalize L[k].1 = x at *
      generalize L[k].2 = y at *
      generalize pgN y = py at *
      gi_wp2
      refine (callsIn_wide.2 hpg2).mono ?_
      rintro e W3 ⟨rfl, hB3⟩
      have hwk := HWK.out W3 hB3
      obtain ⟨h3a, h3b⟩ := HST3.out W3 hB3
      have HH3 : Hid (W3.heap[g2]? = some ob ∧ Rest W F O W3 F' O') := ⟨h3a, h3b⟩
      clear hpg2 HWK HST3 h3a h3b
      gi_wp2
      refine (callsIn_wide.2 (hdn W3)).mono ?_
      rintro e W3' ⟨rfl, rfl⟩
      gi_wp2
      refine (hwk _).mono ?_
      rintro e W4 (⟨rfl, F4, O4, hj4, hr4⟩ | ⟨rfl, hx⟩)
      · obtain ⟨s1, s2, s3⟩ := hr4 _ _ HH3.out.1 HGF.out HG.out
        have HJ4 := Lib.hid hj4
        have HS1 : Hid (W4.heap[g2]? = some ob) := s1
        have HS2 : Hid (¬ F4 g2) := s2
        have HS3 : Hid (¬ O4 g2) := s3
        have HR4 : Hid (Rest W F O W4 F4 O4) := HH3.out.2.trans hr4
        clear hj4 hr4 s1 s2 s3 HH3 hwk
        gi_wp2
        go_roundw
        case rel => exact ⟨k + 1, dn2, dp2, rs2, rp2, F4, O4, by go_num, by omega, HW2, HJ4, HS1, HS2, HS3, HR4⟩
        case measure => simp [intOf]; omega
      · gi_wp2
        go_ret
        exact .inr ⟨rfl, hx⟩
    · have hltm : ¬ k < mm - ix := by have := HML.out; omega
      obtain rfl : k = q := by omega
      have HJ4 : Hid (JJ w0 s dk t root n V D S K (pre ++ es) wr F' (N + 4 + 4 * (pgs.length : Int)) O') := by
        obtain ⟨a1, a2, a3⟩ := HW.out
        rw [← hq.out] at a1
        obtain ⟨rfl, rfl⟩ := HEND.out dn dp rs rp a1 a2 a3
        exact HJ.out
      clear HJ HROW HAT HST HEND HW
      gi_wp2
      go_ret
      exact .inl ⟨rfl, F', O', HJ4.out, HR.out⟩
theorem twalkY_any {K : List Ent → World → (Nat → Prop) → Prop} {Jx : World → Prop} {NX : Int} (hK : KStays K) (full : List Ent) (l2 : Nat) (hY : YieldsOk w0 s dk t root n V D S K Jx full NX l2) (from_ : ByteArray) : ∀ d, WalkY w0 s dk t root n V D S K Jx full NX l2 from_ d
  | 0 => fun at_ es pgs pre W F N O m hw => by simp [walkM] at hw
  | d + 1 => fun at_ es pgs pre W F N O m hw hpre hJ hd hN hNX => by
    simp only [walkM, Option.bind_eq_some_iff] at hw
    obtain ⟨⟨kind, l⟩, hld, hw⟩ := hw
    simp only at hw
    have hfine := (loadM_ok hJ.tin.shows hld).1
    by_cases hk1 : kind = 1
    · subst hk1
      rw [if_pos rfl] at hw
      simp only [Option.some.injEq, Prod.mk.injEq] at hw
      obtain ⟨rfl, rfl⟩ := hw
      simp only [List.length_singleton] at hN hNX ⊢
      by_cases hl : l = []
      · subst hl
        have := twalkY_nil (w0 := w0) (n := n) (V := V) (D := D) (Jx := Jx) hK full l2 at_ hld (66 - ((d + 1 : Nat) : Int)) from_ pre W F N O hJ (by omega) m
        simpa using this
      · have := twalkY_leaf hK full l2 hY at_ l hld (List.length_pos_iff.2 hl) (66 - ((d + 1 : Nat) : Int)) from_ pre hpre W F N O hJ (by omega) (by omega) m
        simpa using this
    · rw [if_neg hk1] at hw
      have hk2 : kind = 2 := by rcases hfine.kind with h | h <;> omega
      subst hk2
      simp only [Option.map_eq_some_iff, Prod.mk.injEq] at hw
      obtain ⟨r, hr, rfl, rfl⟩ := hw
      have e : N + 4 * (((at_ :: r.2).length : Nat) : Int) = N + 4 + 4 * (r.2.length : Int) := by simp only [List.length_cons]; push_cast; omega
      rw [e] at hN hNX ⊢
      exact twalkY_branch hK full l2 from_ d (twalkY_any hK full l2 hY from_ d) at_ l hld r.1 r.2 hr pre hpre W F N O hJ hd hN hNX m
end
end
/-! TRange -/
section
set_option linter.unusedSimpArgs false
set_option linter.unusedVariables false
open Go.RowKit Go.Maps Go.Shelf

attribute [local go_sem] Oper.semAt_some wide_room wide_fn wide_room_in wide_fn_in
section
variable {w0 w W : World} {s dk t root : Nat} {F F' : Nat → Prop} {n N : Int} {V D : Int → ByteArray} {S S1 : TS}
/-- one block that is none of the space's is turned -/
theorem SIn.turn {B : World} {g : Nat} (h : SIn w0 W s dk F n V D N) (hu : Upd (fun b => b = g) W B) (hn : w0.heap.size ≤ g) (ho : ¬ F g) (hs : g ≠ s) : SIn w0 B s dk F n V D N := by
  obtain ⟨p, P, hP, hS, hc⟩ := h.ex
  have hB : Below w0.heap.size w0 B := ⟨hu.os.trans hP.below.os, hu.tape.trans hP.below.tape, hu.output.trans hP.below.output, by have := hP.below.size; have := hu.size; omega, fun k hk => (hu.block k (by have := hP.below.size; omega) (by omega)).trans (hP.below.block k hk)⟩
  exact ⟨⟨p, P, ⟨hP.pat.upd (G := fun b => b = g) hu (fun b hb e => ho (e ▸ hb)), hP.new, hB⟩, hS, (hu.block s (lt_of hc) (fun e => hs e.symm)).trans hc⟩, h.new, h.out, h.glob⟩
theorem TIn.turn {B : World} {g : Nat} (h : TIn w0 W s dk F n V D N t root S) (hu : Upd (fun b => b = g) W B) (hn : w0.heap.size ≤ g) (ho : ¬ F g) (hs : g ≠ s) (ht : g ≠ t) : TIn w0 B s dk F n V D N t root S :=
  ⟨h.sin.turn hu hn ho hs, fun b hb => by have := h.lt b hb; have := hu.size; omega, ⟨(hu.block t (lt_of h.at_.obj) (fun e => ht e.symm)).trans h.at_.obj, h.at_.out⟩, h.shows⟩
/-- blocks that are none of the space's are turned -/
theorem SIn.turnG {B : World} {G : Nat → Prop} (h : SIn w0 W s dk F n V D N) (hu : Upd G W B) (hG : ∀ b, G b → w0.heap.size ≤ b ∧ ¬ F b ∧ b ≠ s) : SIn w0 B s dk F n V D N := by
  obtain ⟨p, P, hP, hS, hc⟩ := h.ex
  have hB : Below w0.heap.size w0 B := ⟨hu.os.trans hP.below.os, hu.tape.trans hP.below.tape, hu.output.trans hP.below.output, by have := hP.below.size; have := hu.size; omega, fun k hk => (hu.block k (by have := hP.below.size; omega) (fun hg => by have := (hG k hg).1; omega)).trans (hP.below.block k hk)⟩
  exact ⟨⟨p, P, ⟨hP.pat.upd (G := G) hu (fun b hb e => (hG b e).2.1 hb), hP.new, hB⟩, hS, (hu.block s (lt_of hc) (fun e => (hG s e).2.2 rfl)).trans hc⟩, h.new, h.out, h.glob⟩
theorem TIn.turnG {B : World} {G : Nat → Prop} (h : TIn w0 W s dk F n V D N t root S) (hu : Upd G W B) (hG : ∀ b, G b → w0.heap.size ≤ b ∧ ¬ F b ∧ b ≠ s ∧ b ≠ t) : TIn w0 B s dk F n V D N t root S :=
  ⟨h.sin.turnG hu fun b hb => ⟨(hG b hb).1, (hG b hb).2.1, (hG b hb).2.2.1⟩, fun b hb => by have := h.lt b hb; have := hu.size; omega, ⟨(hu.block t (lt_of h.at_.obj) (fun e => (hG t e).2.2.2 rfl)).trans h.at_.obj, h.at_.out⟩, h.shows⟩
theorem upd_putObj (W : World) (g : Nat) (o : Obj) : Upd (fun b => b = g) W (W.putObj g o) := ⟨rfl, rfl, rfl, by simp [World.putObj], fun b _ hb => World.putObj_heap_other hb⟩
/-- the caller's own blocks -/
structure Mine (W : World) (F O : Nat → Prop) (t l dm : Nat) : Prop where
  lt : ∀ b, O b → b < W.heap.size
  out : ∀ b, O b → ¬ F b
  tree : ∀ b, O b → b ≠ t
  loop : ∀ b, O b → b ≠ l ∧ b ≠ dm
theorem range_ents {k : Nat} {g : Operand} {p : Tmp} {assign body : Code} {Q : Exit → Act → World → Prop} {a : Act} {gf : Nat} {lb : Array Value} {full : List Ent} {NM : Int} {xid : Nat}
    (hg : a.eval g = .func (.func gf) #[] lb) (eg : ∀ args w, (callFunc gf args).run Tryz.prog w = .ok (.enter gf args) w)
    (KI : List Ent → World → (Nat → Prop) → Prop) (hKI : KStays KI)
    (KX : World → (Nat → Prop) → Prop)
    (hseq : ∀ (K : List Ent → World → (Nat → Prop) → Prop) (Jx : World → Prop) (l m : Nat) (W : World) (O : Nat → Prop), KStays K → YieldsOk w0 s dk t root n V D S K Jx full NM l → Below w.heap.size w W → (∀ b, O b → ¬ F b) → (∀ b, b < w.heap.size → ¬ O b ∨ ∃ O0, KI [] w O0 ∧ O0 b) → JJ w0 s dk t root n V D S K [] W F N O →
      CallsIn Fence.wide m Tryz.prog gf (#[.func (.yield l) #[] #[]] ++ lb) W fun e W' => (∃ v, e = .returned v) ∧ ((∃ F1 O1, JJ w0 s dk t root n V D S K full W' F1 NM O1) ∨ Jx W'))
    (O0 : Nat → Prop) (h0 : TIn w0 w s dk F n V D N t root S) (hm0 : Mine w F O0 t (w.heap.size + 1) w.heap.size) (hk0 : KI [] w O0) (hO : ∀ O0', KI [] w O0' → ∀ b, O0' b → O0 b)
    (q : Tmp)
    (hassign : ∀ (m l : Nat) (x : Ent) (W : World) (K : Act → World → Prop), K { tmps := (a.tmps.setIfInBounds p (encE x)).setIfInBounds q (.pointer (some ⟨W.heap.size, 0, none⟩)), defers := [] } (W.alloc (boxE x.1 x.2)) →
      assign.wpIn (Fence.wide.inRound l) m Tryz.prog (Exit.then K (fun _ _ _ => False)) { tmps := a.tmps.setIfInBounds p (encE x), defers := [] } W)
    (hbody : ∀ (m l dm : Nat) (pre : List Ent) (x : Ent) (B : Nat) (W : World) (F1 : Nat → Prop) (N1 : Int) (O1 : Nat → Prop), pre ++ [x] <+: full → N1 ≤ NM → TIn w0 W s dk F1 n V D N1 t root S → Mine W F1 O1 t l dm → KI pre W O1 → W.heap[B]? = some (boxE x.1 x.2) → ¬ O1 B → ¬ F1 B → B ≠ l → B ≠ dm → dm + 1 = l → w.heap.size = dm → l < W.heap.size →
      body.wpIn (Fence.wide.inRound l) m Tryz.prog (fun e _ W' => (e = .normal ∧ TIn w0 W' s dk F1 n V D N1 t root S ∧ ∃ O2, Mine W' F1 O2 t l dm ∧ KI (pre ++ [x]) W' O2 ∧ ∀ b o, W.heap[b]? = some o → ¬ O1 b → W'.heap[b]? = some o ∧ ¬ O2 b) ∨ (e = .exit xid ∧ TIn w0 W' s dk F1 n V D N1 t root S ∧ ∃ O2, Mine W' F1 O2 t l dm ∧ (∀ B : World, W'.heap.size ≤ B.heap.size → (∀ b, O2 b → B.heap[b]? = W'.heap[b]?) → KX B O2) ∧ ∀ b o, W.heap[b]? = some o → ¬ O1 b → W'.heap[b]? = some o ∧ ¬ O2 b)) { tmps := (a.tmps.setIfInBounds p (encE x)).setIfInBounds q (.pointer (some ⟨B, 0, none⟩)), defers := [] } W)
    (hdone : ∀ (dm : Nat) (W : World) F1 O1, dm = w.heap.size → TIn w0 W s dk F1 n V D NM t root S → Mine W F1 O1 t (dm + 1) dm → KI full W O1 → W.heap[dm]? = some (.deferred (some [])) → ¬ F1 dm → Q .normal { a with defers := { target := .collected dm, args := #[] } :: a.defers } W)
    (hexit : ∀ (dm : Nat) (W : World) F1 (N1 : Int) O1, dm = w.heap.size → N1 ≤ NM → TIn w0 W s dk F1 n V D N1 t root S → Mine W F1 O1 t (dm + 1) dm → KX W O1 → W.heap[dm]? = some (.deferred (some [])) → ¬ F1 dm → Q (.exit xid) { a with defers := { target := .collected dm, args := #[] } :: a.defers } W) :
    (Code.rangeFunc g #[p] assign body).wpIn Fence.wide k Tryz.prog Q a w := by
  refine wpIn_rangeFunc fun fn hfn => ?_
  have hb0 := h0.sin.below.size
  have hsl := h0.sin.slt
  have htl := lt_of h0.at_.obj
  obtain ⟨rec, hrec⟩ : ∃ rec : LoopState → Option Code → Loop, rec = fun st pe => { state := st, pending := pe, fn, tmps := a.tmps, params := #[p], assign, body, defers := w.heap.size } := ⟨_, rfl⟩
  obtain ⟨W1, hW1⟩ : ∃ W1, (w.alloc (.deferred (some []))).alloc (.loop (rec .ready none)) = W1 := ⟨_, rfl⟩
  have hs1 : W1.heap.size = w.heap.size + 2 := by rw [← hW1]; simp
  have hbw : Below w.heap.size w W1 := by rw [← hW1]; exact ((Below.refl _ w).alloc (Nat.le_refl _) _).alloc (by simp) _
  let Bk : LoopState → Option Code → World → Prop := fun st pe W => W.heap[w.heap.size + 1]? = some (.loop (rec st pe)) ∧ W.heap[w.heap.size]? = some (.deferred (some []))
  have hB1 : Bk .ready none W1 := by
    refine ⟨?_, ?_⟩
    · rw [← hW1]; have := World.alloc_heap_new (w.alloc (.deferred (some []))) (.loop (rec .ready none)); rwa [World.size_alloc] at this
    · rw [← hW1]; exact (Below.heap_alloc _ _ _ (by simp)).trans (World.alloc_heap_new w _)
  let K : List Ent → World → (Nat → Prop) → Prop := fun pre W O => ∃ O1, KI pre W O1 ∧ (∀ b, O b ↔ (O1 b ∨ b = w.heap.size + 1 ∨ b = w.heap.size)) ∧ (∀ b, O1 b → b ≠ w.heap.size + 1 ∧ b ≠ w.heap.size) ∧ Bk .ready none W
  have hK : KStays K := by
    rintro pre A B O ⟨O1, k1, k2, k3, k4, k5⟩ hsz hbl
    exact ⟨O1, hKI pre A B O1 k1 hsz (fun b hb => hbl b ((k2 b).2 (.inl hb))), k2, k3, (hbl _ ((k2 _).2 (.inr (.inl rfl)))).trans k4, (hbl _ ((k2 _).2 (.inr (.inr rfl)))).trans k5⟩
  let Jx : World → Prop := fun W => ∃ (F1 : Nat → Prop) (N1 : Int) (O2 : Nat → Prop), N1 ≤ NM ∧ TIn w0 W s dk F1 n V D N1 t root S ∧ Mine W F1 O2 t (w.heap.size + 1) w.heap.size ∧ (∀ B : World, W.heap.size ≤ B.heap.size → (∀ b, O2 b → B.heap[b]? = W.heap[b]?) → KX B O2) ∧ Bk .done (some (.exit xid)) W ∧ ¬ F1 (w.heap.size + 1) ∧ ¬ F1 w.heap.size
  have hF0 : ∀ b, w.heap.size ≤ b → ¬ F b := fun b hb hf => by have := h0.lt b hf; omega
  let OO : Nat → Prop := fun b => O0 b ∨ b = w.heap.size + 1 ∨ b = w.heap.size
  have hJ1 : JJ w0 s dk t root n V D S K [] W1 F N OO := by
    refine ⟨h0.made hbw, fun b hb => ?_, O0, hKI [] w W1 O0 hk0 hbw.size (fun b hb => hbw.block b (hm0.lt b hb)), fun b => Iff.rfl, hm0.loop, hB1⟩
    rcases hb with hb | rfl | rfl
    · exact ⟨by have := hm0.lt b hb; omega, hm0.out b hb, hm0.tree b hb⟩
    · exact ⟨by omega, hF0 _ (by omega), by omega⟩
    · exact ⟨by omega, hF0 _ (by omega), by omega⟩
  refine ⟨w.heap.size + 1, [{ target := .collected w.heap.size, args := #[] }], W1, { target := .fn (.func gf) lb, args := #[.func (.yield (w.heap.size + 1)) #[] #[]] }, W1, gf,
    #[.func (.yield (w.heap.size + 1)) #[] #[]] ++ lb, W1, ?_, ?_, fun _ _ => trivial, ?_, fun h => by simp [Fence.wide] at h, ?_⟩
  · rw [← hW1, hrec]; exact run_enterLoop_outer _ _ _ _ _
  · simp only [resolve, hg]
    simp [go_sem]
  · simp [invoke, go_sem, eg]
  · refine (hseq K Jx (w.heap.size + 1) (k - 1) W1 OO hK ?_ hbw ?_ ?_ hJ1).mono ?_
    · -- one round
      rintro m pre x W2 F1 N1 O hpre hJ hNM
      obtain ⟨O1, k1, k2, k3, hl, hk⟩ := hJ.has
      have hy := run_yield (P := Tryz.prog) (args := #[encE x]) hl (by rw [hrec]; rfl)
      have hy2 : (Instr.yield (w.heap.size + 1) #[encE x]).run Tryz.prog W2 = .ok (.round (w.heap.size + 1) fn (a.tmps.setIfInBounds p (encE x)) assign body) W2 := by rw [hy, hrec]; simp
      refine ⟨fn, _, assign, body, hy2, roundIn_of_wpIn hfn ?_⟩
      clear hy hy2
      refine hassign _ _ x W2 _ ?_
      have hJ2 := hJ.made hK (((Below.refl _ W2).alloc (Nat.le_refl _) (boxE x.1 x.2)))
      have hbx : (W2.alloc (boxE x.1 x.2)).heap[W2.heap.size]? = some (boxE x.1 x.2) := heap_alloc_new' W2 _
      have hBa : Below W2.heap.size W2 (W2.alloc (boxE x.1 x.2)) := (Below.refl _ W2).alloc (Nat.le_refl _) _
      have hl2 := (hBa.block _ (lt_of hl)).trans hl
      have hk2 := (hBa.block _ (lt_of hk)).trans hk
      have hka := hKI pre W2 _ O1 k1 hBa.size (fun b hb => hBa.block b (hJ.own b ((k2 b).2 (.inl hb))).1)
      have hBn : ¬ F1 W2.heap.size := fun hf => by have := hJ.tin.lt _ hf; omega
      have hO1n : ¬ O1 W2.heap.size := fun ho => by have := (hJ.own _ ((k2 _).2 (.inl ho))).1; omega
      have hll := lt_of hl
      have hkl := lt_of hk
      obtain ⟨-, nfl, ntl⟩ := hJ.own (w.heap.size + 1) ((k2 _).2 (.inr (.inl rfl)))
      obtain ⟨-, nfd, ntd⟩ := hJ.own w.heap.size ((k2 _).2 (.inr (.inr rfl)))
      have hown1 := hJ.own
      have hta := hJ2.tin
      generalize hWa : W2.alloc (boxE x.1 x.2) = Wa at *
      refine ⟨_, run_beginRound hl2 (by rw [hrec]), ?_⟩
      obtain ⟨o3, ho3⟩ : ∃ o3, Obj.loop { rec .ready none with state := .busy } = o3 := ⟨_, rfl⟩
      rw [ho3]
      have hu := upd_putObj Wa (w.heap.size + 1) o3
      have hl3 : (Wa.putObj (w.heap.size + 1) o3).heap[w.heap.size + 1]? = some o3 := World.putObj_heap_same (lt_of hl2)
      have hk3 : (Wa.putObj (w.heap.size + 1) o3).heap[w.heap.size]? = some (.deferred (some [])) := (World.putObj_heap_other (by omega)).trans hk2
      have hbx3 : (Wa.putObj (w.heap.size + 1) o3).heap[W2.heap.size]? = some (boxE x.1 x.2) := (World.putObj_heap_other (by omega)).trans hbx
      have ht3 := hta.turn hu (by omega) nfl (by omega) ntl
      have hmine : Mine (Wa.putObj (w.heap.size + 1) o3) F1 O1 t (w.heap.size + 1) w.heap.size := ⟨fun b hb => by
        have h1 := (hown1 b ((k2 b).2 (.inl hb))).1
        have h2 := hBa.size
        have h3 := hu.size
        omega, fun b hb => (hown1 b ((k2 b).2 (.inl hb))).2.1, fun b hb => (hown1 b ((k2 b).2 (.inl hb))).2.2, k3⟩
      have hk4 := hKI pre Wa (Wa.putObj (w.heap.size + 1) o3) O1 hka hu.size (fun b hb => World.putObj_heap_other (k3 b hb).1)
      refine wpIn_mono (hbody _ (w.heap.size + 1) w.heap.size pre x W2.heap.size _ F1 N1 O1 hpre hNM ht3 hmine hk4 hbx3 hO1n hBn (by omega) (by omega) rfl rfl (lt_of hl3)) ?_
      rintro e a3 W3 (⟨rfl, ht, O2, hm2, hk5, hrest⟩ | ⟨rfl, ht, O2, hm2, hk5, hrest⟩)
      rotate_left
      · have hl4 := (hrest _ _ hl3 (fun ho => (k3 _ ho).1 rfl)).1
        have hk6 := (hrest _ _ hk3 (fun ho => (k3 _ ho).2 rfl)).1
        rw [← ho3] at hl4
        have hr := run_endRound (P := Tryz.prog) (some (.exit xid)) hl4
        have hu4 := upd_putObj W3 (w.heap.size + 1) (.loop { ({ rec .ready none with state := .busy } : Loop) with state := if (some (Code.exit xid)).isNone then .ready else .done, pending := some (.exit xid) })
        refine ⟨_, _, hr, .inr ⟨rfl, F1, N1, O2, hNM, ht.turn hu4 (by omega) nfl (by omega) ntl, ⟨fun b hb => Nat.lt_of_lt_of_le (hm2.lt b hb) hu4.size, hm2.out, hm2.tree, hm2.loop⟩, fun B hsB hbB => hk5 B (Nat.le_trans hu4.size hsB) fun b hb => (hbB b hb).trans (World.putObj_heap_other (hm2.loop b hb).1), ⟨?_, (World.putObj_heap_other (by omega)).trans hk6⟩, nfl, nfd⟩⟩
        rw [World.putObj_heap_same (lt_of hl4), hrec]; rfl
      have hl4 := (hrest _ _ hl3 (fun ho => (k3 _ ho).1 rfl)).1
      have hk6 := (hrest _ _ hk3 (fun ho => (k3 _ ho).2 rfl)).1
      rw [← ho3] at hl4
      have hr := run_endRound (P := Tryz.prog) none hl4
      have hu4 := upd_putObj W3 (w.heap.size + 1) (.loop { ({ rec .ready none with state := .busy } : Loop) with state := if (none : Option Code).isNone then .ready else .done, pending := none })
      refine ⟨_, _, hr, .inl ⟨rfl, fun b => O2 b ∨ b = w.heap.size + 1 ∨ b = w.heap.size, ⟨ht.turn hu4 (by omega) nfl (by omega) ntl, fun b hb => ?_, O2, ?_, fun b => Iff.rfl, hm2.loop, ?_, (World.putObj_heap_other (by omega)).trans hk6⟩, fun b o hb hf ho => ?_⟩⟩
      · rcases hb with hb | rfl | rfl
        · exact ⟨Nat.lt_of_lt_of_le (hm2.lt b hb) (upd_putObj _ _ _).size, hm2.out b hb, hm2.tree b hb⟩
        · exact ⟨Nat.lt_of_lt_of_le (lt_of hl4) (upd_putObj _ _ _).size, nfl, ntl⟩
        · exact ⟨Nat.lt_of_lt_of_le (lt_of hk6) (upd_putObj _ _ _).size, nfd, ntd⟩
      · exact hKI _ W3 _ O2 hk5 hu4.size (fun b hb => World.putObj_heap_other (hm2.loop b hb).1)
      · rw [World.putObj_heap_same (lt_of hl4), hrec]; rfl
      · have hne1 : b ≠ w.heap.size + 1 := fun e => ho ((k2 b).2 (.inr (.inl e)))
        have hne2 : b ≠ w.heap.size := fun e => ho ((k2 b).2 (.inr (.inr e)))
        have hno : ¬ O1 b := fun h => ho ((k2 b).2 (.inl h))
        have p1 := (hBa.block b (lt_of hb)).trans hb
        have p2 := (World.putObj_heap_other (w := Wa) (o := o3) hne1).trans p1
        obtain ⟨p3, p4⟩ := hrest b o p2 hno
        exact ⟨(World.putObj_heap_other hne1).trans p3, hf, fun h => by
          rcases h with h | h | h
          · exact p4 h
          · exact hne1 h
          · exact hne2 h⟩
    · rintro b hb hf
      rcases hb with hb | rfl | rfl
      · exact hm0.out b hb hf
      · exact hF0 _ (by omega) hf
      · exact hF0 _ (by omega) hf
    · intro b hb
      by_cases ho : OO b
      · rcases ho with ho | rfl | rfl
        · exact .inr ⟨O0, hk0, ho⟩
        · omega
        · omega
      · exact .inl ho
    · rintro e W2 ⟨⟨v, rfl⟩, ⟨F1, O1, hj⟩ | ⟨F1, N1, O2, hNM, ht, hm2, hkx, ⟨hl, hk⟩, nfl, nfd⟩⟩
      rotate_left
      · refine ⟨some (.exit xid), _, by have := run_endLoop (P := Tryz.prog) hl (by rw [hrec]; simp); rw [hrec] at this; exact this, ?_⟩
        have hll := lt_of hl
        have hu := upd_putObj W2 (w.heap.size + 1) (.loop { rec .done (some (.exit xid)) with state := .exhausted })
        rw [hrec] at hu
        refine wpIn_exit (hexit w.heap.size _ F1 N1 O2 rfl hNM (ht.turn hu (by omega) nfl (by omega) ?_) ⟨fun b hb => Nat.lt_of_lt_of_le (hm2.lt b hb) hu.size, hm2.out, hm2.tree, hm2.loop⟩ (hkx _ hu.size fun b hb => World.putObj_heap_other (hm2.loop b hb).1) ((World.putObj_heap_other (by omega)).trans hk) nfd)
        omega
      obtain ⟨O2, k1, k2, k3, hl, hk⟩ := hj.has
      have hob := fun b hb => hj.own b hb
      obtain ⟨-, nfl, ntl⟩ := hob (w.heap.size + 1) ((k2 _).2 (.inr (.inl rfl)))
      refine ⟨none, _, by have := run_endLoop (P := Tryz.prog) hl (by rw [hrec]; simp); rw [hrec] at this; exact this, ?_⟩
      have hll := lt_of hl
      refine hdone w.heap.size _ F1 O2 rfl (hj.tin.turn (upd_putObj W2 (w.heap.size + 1) _) (by omega) nfl (by omega) ntl) ⟨fun b hb => ?_, fun b hb => (hob b ((k2 b).2 (.inl hb))).2.1, fun b hb => (hob b ((k2 b).2 (.inl hb))).2.2, k3⟩ (hKI full W2 _ O2 k1 (upd_putObj W2 (w.heap.size + 1) _).size (fun b hb => World.putObj_heap_other (k3 b hb).1)) ((World.putObj_heap_other (by omega)).trans hk) (hob w.heap.size ((k2 _).2 (.inr (.inr rfl)))).2.1
      exact Nat.lt_of_lt_of_le (hob b ((k2 b).2 (.inl hb))).1 (upd_putObj _ _ _).size
end
end
end Go.Proofs.YtmgcaohpbaiiaaaGreatDoor
