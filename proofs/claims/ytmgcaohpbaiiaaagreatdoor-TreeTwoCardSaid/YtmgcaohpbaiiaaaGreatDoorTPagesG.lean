/- Tree.Pages, at all depths. -/
import Derived.Test.YtmgcaohpbaiiaaaGreatDoorU8
import Derived.Test.YtmgcaohpbaiiaaaGreatDoorTInts
import Derived.Sort.OwnSortedInts
set_option linter.unusedSimpArgs false
set_option linter.unusedVariables false
namespace Go.Proofs.YtmgcaohpbaiiaaaGreatDoor
open Go.RowKit Go.Maps Go.Shelf

def encN (k : Nat) : Value := .int .i64 (k : Nat)
section
variable {w0 w W : World} {s dk t root : Nat} {F F' : Nat → Prop} {n N M : Int} {V D : Int → ByteArray} {S S1 : TS}
theorem TRun.turnG {B : World} {G : Nat → Prop} (h : TRun w0 w W s dk F F' n V D N t root S) (h0 : w0.heap.size ≤ w.heap.size) (hu : Upd G W B) (hG : ∀ b, G b → w.heap.size ≤ b ∧ ¬ F' b ∧ b ≠ s ∧ b ≠ t) : TRun w0 w B s dk F F' n V D N t root S := by
  have ht := h.tin.turnG hu fun b hb => ⟨by have := (hG b hb).1; omega, (hG b hb).2⟩
  exact ⟨ht, ht.sin, h.tst.upd.then hu fun x hx hg => by have := (hG x hg).1; omega, h.tst.new, ht.lt⟩
/-- the pages that have been told lie in a row of one's own; O: the blocks that hold them -/
structure PJ (w0 w : World) (s dk t root : Nat) (F : Nat → Prop) (n : Int) (V D : Int → ByteArray) (S : TS) (ob : Nat) (pre : List Nat) (W : World) (F1 : Nat → Prop) (N : Int) (O : Nat → Prop) : Prop where
  run : TRun w0 w W s dk F F1 n V D N t root S
  ex : ∃ ao co, W.heap[ob]? = some (.cells #[.slice ao pre.length co] 44 (0, 0)) ∧ W.ownsRow (ob + 1) 3 1 (.slice ao pre.length co) pre.length (pre.map encN) ∧ ∀ b, O b ↔ (b = ob ∨ (Value.slice ao pre.length co).ownBlock = some b)
  out : ∀ b, O b → ¬ F1 b
section
variable {ob : Nat} {pre : List Nat} {F1 O : Nat → Prop} {B : World} {F2 : Nat → Prop}
theorem PJ.lt (h : PJ w0 w s dk t root F n V D S ob pre W F1 N O) : ∀ b, O b → b < W.heap.size ∧ ob ≤ b := fun b hb => by
  obtain ⟨ao, co, h1, h2, h3⟩ := h.ex
  rcases (h3 b).1 hb with rfl | e
  · exact ⟨lt_of h1, Nat.le_refl _⟩
  · have := h2.lt b e; omega
theorem PJ.keep (h : PJ w0 w s dk t root F n V D S ob pre W F1 N O) (hr : TRun w0 w B s dk F F2 n V D M t root S) (hb : ∀ b, O b → B.heap[b]? = W.heap[b]? ∧ ¬ F2 b) : PJ w0 w s dk t root F n V D S ob pre B F2 M O := by
  obtain ⟨ao, co, h1, h2, h3⟩ := h.ex
  exact ⟨hr, ⟨ao, co, ((hb ob ((h3 ob).2 (.inl rfl))).1).trans h1, ownsRow_keep h2 fun g hg => (hb g ((h3 g).2 (.inr hg))).1, h3⟩, fun b hO => (hb b hO).2⟩
theorem PJ.step (h : PJ w0 w s dk t root F n V D S ob pre W F1 N O) (k : TSt w0 W B s dk F1 F2 n V D M) : PJ w0 w s dk t root F n V D S ob pre B F2 M O :=
  h.keep (h.run.step k h.run.tin.shows) fun b hO => ⟨k.upd.block b (h.lt b hO).1 (h.out b hO), fun hf => by
    rcases k.new b hf with h4 | h4
    · exact h.out b hO h4
    · have := (h.lt b hO).1; omega⟩
theorem PJ.made (h : PJ w0 w s dk t root F n V D S ob pre W F1 N O) (hB : Below W.heap.size W B) : PJ w0 w s dk t root F n V D S ob pre B F1 N O :=
  h.keep (h.run.made hB) fun b hO => ⟨hB.block b (h.lt b hO).1, h.out b hO⟩
set_option maxHeartbeats 1000000 in
theorem pages2_any (h : PJ w0 w s dk t root F n V D S ob pre W F1 N O) (h0 : w0.heap.size ≤ w.heap.size) (hw : w.heap.size ≤ ob) (hos : ob ≠ s) (hot : ob ≠ t) (hsl : s < w.heap.size) (htl : t < w.heap.size) (hl : pre.length ≤ 100000) (k : Nat) :
    Calls Tryz.prog 48 #[.int .i64 (k : Nat), .pointer (some ⟨ob, 0, none⟩)] W fun e w' => e = .returned (.tuple #[]) ∧ ∃ O', PJ w0 w s dk t root F n V D S ob (pre ++ [k]) w' F1 N O' ∧ Rest W F1 O w' F1 O' := by
  obtain ⟨ao, co, h1, h2, h3⟩ := h.ex
  have hobl := lt_of h1
  have hB1 : Below W.heap.size W (W.alloc (.cells #[.int .i64 (k : Nat)] 3)) := (Below.refl _ W).alloc (Nat.le_refl _) _
  obtain ⟨a2, c2, w3, hr, ho, hg, hao⟩ := many_append 3 44 (.int .i64 0) 1 8 info_int Tryz.underlying44 rfl (by decide) (by decide) (W.alloc (.cells #[.int .i64 (k : Nat)] 3)) (ob + 1) (.slice ao pre.length co) pre.length (pre.map encN)
    (ownsRow_keep h2 fun g hg => hB1.block g (h2.lt g hg).2) ⟨W.heap.size, 0, none⟩ 1 1 [encN k] rfl (fun j u hj => by
      have hadd : Addr.add ⟨W.heap.size, 0, none⟩ j = ⟨W.heap.size, j, none⟩ := by unfold Addr.add; split <;> simp_all
      rw [hadd, cell_new]
      simpa [encN] using hj) (by simp [encN, Value.oneCell']) (by omega) (by simp; omega)
  have hs1 : (W.alloc (.cells #[.int .i64 (k : Nat)] 3)).heap.size = W.heap.size + 1 := by simp
  have hU3 : Upd (fun b => b = ob ∨ (Value.slice ao pre.length co).ownBlock = some b) W w3 := (Upd.below hB1 (by omega)).grown hg fun x e _ => .inr e
  have k1 : w3.heap[ob]? = some (.cells #[.slice ao pre.length co] 44 (0, 0)) := (hg.block _ (by omega) (fun e => by have := (h2.lt ob e.symm).1; omega)).trans ((hB1.block _ hobl).trans h1)
  have hU : Upd (fun b => b = ob ∨ (Value.slice ao pre.length co).ownBlock = some b) W (w3.setCell ⟨ob, 0, none⟩ (.slice a2 (pre.length + 1) c2)) := hU3.setCell _ (fun _ => .inl rfl) _
  have hs4 : Upd (fun b => b = ob) w3 (w3.setCell ⟨ob, 0, none⟩ (.slice a2 (pre.length + 1) c2)) := (Upd.refl (fun b => b = ob) w3).setCell ⟨ob, 0, none⟩ (fun _ => rfl) _
  have hown : ∀ b, (Value.slice ao pre.length co).ownBlock = some b → ob + 1 ≤ b ∧ b < W.heap.size := fun b hb => h2.lt b hb
  have hrun := h.run.turnG h0 hU (fun b hb => by
    rcases hb with rfl | hb
    · exact ⟨hw, h.out _ ((h3 _).2 (.inl rfl)), hos, hot⟩
    · have := (hown b hb).1
      exact ⟨by omega, h.out _ ((h3 _).2 (.inr hb)), by omega, by omega⟩)
  have HFN : Hid (∃ O', PJ w0 w s dk t root F n V D S ob (pre ++ [k]) (w3.setCell ⟨ob, 0, none⟩ (.slice a2 (pre.length + 1) c2)) F1 N O' ∧ Rest W F1 O (w3.setCell ⟨ob, 0, none⟩ (.slice a2 (pre.length + 1) c2)) F1 O') := by
    have hnew : ∀ b, (Value.slice a2 (pre.length + 1) c2).ownBlock = some b → ob + 1 ≤ b ∧ b < w3.heap.size ∧ ((Value.slice ao pre.length co).ownBlock = some b ∨ W.heap.size ≤ b) := fun b hb => by
      obtain ⟨q1, q2⟩ := ho.lt b hb
      refine ⟨q1, q2, ?_⟩
      rcases hao with e | e
      · exact .inl (by rw [← e]; exact hb)
      · have h5 := Option.some.inj (e.symm.trans hb)
        exact .inr (by omega)
    refine ⟨fun b => b = ob ∨ (Value.slice a2 (pre.length + 1) c2).ownBlock = some b, ⟨hrun, ⟨a2, c2, ?_, ?_, ?_⟩, ?_⟩, ?_⟩
    · rw [List.length_append, heap_setCell_same k1 0 _]; rfl
    · have := ownsRow_keep ho fun g hg => hs4.block g (hnew g hg).2.1 (by have := (hnew g hg).1; omega)
      rw [List.length_append, List.map_append]
      exact this
    · intro b
      rw [List.length_append]
      exact Iff.rfl
    · rintro b (rfl | hb) hf
      · exact h.out _ ((h3 _).2 (.inl rfl)) hf
      · rcases (hnew b hb).2.2 with e | e
        · exact h.out _ ((h3 _).2 (.inr e)) hf
        · have := h.run.tin.lt b hf; omega
    · intro b o hb hf hO
      have hlt := lt_of hb
      refine ⟨(hU.block b hlt ?_).trans hb, hf, ?_⟩
      · rintro (e | e)
        · exact hO ((h3 _).2 (.inl e))
        · exact hO ((h3 _).2 (.inr e))
      · rintro (e | e)
        · exact hO ((h3 _).2 (.inl e))
        · rcases (hnew b e).2.2 with e2 | e2
          · exact hO ((h3 _).2 (.inr e2))
          · omega
  have c0 : W.cell? ⟨ob, 0, none⟩ = some (.slice ao pre.length co) := by rw [cell_of h1]; rfl
  have c3 : w3.cell? ⟨ob, 0, none⟩ = some (.slice ao pre.length co) := by rw [cell_of k1]; rfl
  have f3 : w3.frozen? ⟨ob, 0, none⟩ = false := frozen_of k1 0
  have hr' : (Builtin.append_ #[44, 44] 44 #[.slice ao pre.length co, .slice (some ⟨W.heap.size, 0, none⟩) 1 1]).run Tryz.prog (W.alloc (.cells #[.int .i64 (k : Nat)] 3)) = .ok (.slice a2 (pre.length + 1) c2) w3 := hr
  clear h h1 h2 h3 hU3 hU hs4 hg ho hao hr hrun k1 hB1 hown
  generalize pre.length = q at *
  go_enter Tryz.func48, Tryz.ntmps48
  go_wp2_with (at_builtin; refine wpList_append_run hr' rfl rfl rfl rfl rfl ?_)
  go_end0
  exact ⟨rfl, HFN.out⟩
/-- what a walk that tells pages does with so many steps down at hand -/
def WalkP (w0 w : World) (s dk t root : Nat) (F : Nat → Prop) (n : Int) (V D : Int → ByteArray) (S : TS) (ob : Nat) (d : Nat) : Prop :=
  ∀ (at_ : Nat) (es : List Ent) (pgs : List Nat) (pre : List Nat) (W : World) (F1 : Nat → Prop) (N : Int) (O : Nat → Prop), walkM ⟨#[]⟩ d S at_ = some (es, pgs) → PJ w0 w s dk t root F n V D S ob pre W F1 N O → d ≤ 66 → pre.length + pgs.length ≤ 100000 → N + 4 * (pgs.length : Int) < 1000000000 →
    Calls Tryz.prog 47 #[.pointer (some ⟨t, 0, none⟩), .int .i64 at_, .int .i64 (66 - (d : Int)), .string ⟨#[]⟩, .func (.func 48) #[] #[.pointer (some ⟨ob, 0, none⟩)], .func (.func 49) #[] #[]] W fun e w' =>
      e = .returned (.bool true) ∧ ∃ F2 O2, PJ w0 w s dk t root F n V D S ob (pre ++ pgs) w' F2 (N + 4 * (pgs.length : Int)) O2 ∧ Rest W F1 O w' F2 O2
set_option maxHeartbeats 4000000 in
set_option maxRecDepth 100000 in
theorem walkP_leaf {ob : Nat} (h0 : w0.heap.size ≤ w.heap.size) (hw : w.heap.size ≤ ob) (hos : ob ≠ s) (hot : ob ≠ t) (hsl : s < w.heap.size) (htl : t < w.heap.size) (at_ : Nat) (l : List Ent) (hld : loadM S at_ = some (1, l)) (deep : Int) (pre : List Nat) (W : World) (F1 : Nat → Prop) (N : Int) (O : Nat → Prop)
    (hJ : PJ w0 w s dk t root F n V D S ob pre W F1 N O) (hl : pre.length ≤ 100000) (hN : N < 1000000000) :
    Calls Tryz.prog 47 #[.pointer (some ⟨t, 0, none⟩), .int .i64 at_, .int .i64 deep, .string ⟨#[]⟩, .func (.func 48) #[] #[.pointer (some ⟨ob, 0, none⟩)], .func (.func 49) #[] #[]] W fun e w' =>
      e = .returned (.bool true) ∧ ∃ F2 O2, PJ w0 w s dk t root F n V D S ob (pre ++ [at_]) w' F2 (N + 4) O2 ∧ Rest W F1 O w' F2 O2 := by
  have hfine := (loadM_ok hJ.run.tin.shows hld).1
  have hlen := hfine.len
  have hasc := hfine.asc
  have hix : lIx l ⟨#[]⟩ = 0 := List.countP_eq_zero.2 fun q _ => by rw [ltB_empty]; simp
  have hP2 := pages2_any hJ h0 hw hos hot hsl htl hl at_
  have HLD : Hid (∀ w1 O1, PJ w0 w s dk t root F n V D S ob (pre ++ [at_]) w1 F1 N O1 → Rest W F1 O w1 F1 O1 → Calls Tryz.prog 39 #[.pointer (some ⟨t, 0, none⟩), .int .i64 at_] w1 fun e w2 => ∃ ao c F2, e = .returned (.tuple #[.int .i64 1, .slice ao l.length c]) ∧ (ao = none → l.length = 0 ∧ c = 0) ∧ (∀ a, ao = some a → ∃ g, a = ⟨g, 0, none⟩) ∧ l.length ≤ c ∧
      (∀ W3, Below w2.heap.size w2 W3 → PJ w0 w s dk t root F n V D S ob (pre ++ [at_]) W3 F2 (N + 4) O1 ∧ Rest W F1 O W3 F2 O1 ∧ ERow W3 ao l) ∧ Calls Tryz.prog 40 #[.slice ao l.length c, .string ⟨#[]⟩] w2 fun e w3 => e = .returned (.tuple #[.int .i64 0, .bool (lHas l ⟨#[]⟩)]) ∧ Below w2.heap.size w2 w3) := fun w1 O1 hj hr => by
    refine (tload_any hj.run.tin at_ 1 l hld (by omega)).mono ?_
    rintro e w2 ⟨F2, v, he, hst, ho, hout⟩
    have row : Row w2 F2 w1.heap.size v l := ⟨ho, hout⟩
    obtain ⟨ao, c, rfl, er, hat, hnil, hlc⟩ := row.parts
    refine ⟨ao, c, F2, he, fun e => ?_, fun a e => ?_, hlc, fun W3 hB => ⟨(hj.step hst).made hB, fun b o hb hf ho2 => ?_, er.made hB⟩, ?_⟩
    · obtain ⟨h1, h2⟩ := hnil e; exact ⟨by rw [h1]; rfl, h2⟩
    · subst e
      obtain ⟨g', cur, e2, -⟩ := row.own.block
      exact ⟨g', e2⟩
    · obtain ⟨r1, r2, r3⟩ := hr b o hb hf ho2
      have r4 := (hst.upd.block b (lt_of r1) r2).trans r1
      refine ⟨(hB.block b (lt_of r4)).trans r4, fun hf2 => ?_, r3⟩
      rcases hst.new b hf2 with h | h
      · exact r2 h
      · have := lt_of r1; omega
    · have := find_any w2 ao c l ⟨#[]⟩ er hasc (by omega)
      rw [hix] at this
      exact this
  have HAT : Hid (∀ W2 ao, ERow W2 ao l → ∀ k, k < l.length → ∃ g o x y, ao = some ⟨g, o, none⟩ ∧ W2.cell? ⟨g, o + k * 2, none⟩ = some (.string x) ∧ W2.cell? ⟨g, o + k * 2 + 1, none⟩ = some (.string y)) := fun W2 ao er k hk => by
    obtain ⟨g, o, e, d0, d1⟩ := er.at hk
    exact ⟨g, o, _, _, e, d0, d1⟩
  clear hJ hld hfine hasc hix
  generalize lHas l ⟨#[]⟩ = hb at *
  generalize l.length = m at *
  go_enter Tryz.func47, Tryz.ntmps47
  go_wp2_with fail
  refine hP2.mono ?_
  rintro e w1 ⟨rfl, O1, hj1, hr1⟩
  have hl1 := HLD.out w1 O1 hj1 hr1
  clear hP2 HLD hj1 hr1
  go_wp2_with fail
  refine hl1.mono ?_
  rintro e w2 ⟨ao, c, F2, rfl, hno, hao, hlc, hst, hfd⟩
  have HST := Lib.hid hst
  clear hl1 hst
  have z3 : (m : Int) ≤ (c : Int) := by omega
  have z4 : (0 : Int) ≤ (c : Int) := by omega
  go_wp2_with fail
  refine hfd.mono ?_
  rintro e w3 ⟨rfl, hB3⟩
  clear hfd
  cases ao with
  | none =>
    obtain ⟨rfl, rfl⟩ := hno rfl
    clear hno hao
    go_wp2
    go_loopw [42] (fun v wr => v = .int .i64 0 ∧ wr = w3) (fun _ _ => 0)
    case atStart => exact ⟨rfl, rfl⟩
    case round =>
      obtain ⟨rfl, rfl⟩ := hrel
      obtain ⟨f1, f2, -⟩ := HST.out _ hB3
      have F1' := Lib.hid f1
      have F2' := Lib.hid f2
      clear f1 f2
      go_wp2
      go_ret
      exact ⟨rfl, F2, O1, F1'.out, F2'.out⟩
  | some a =>
    obtain ⟨g, rfl⟩ := hao a rfl
    clear hno hao
    by_cases hc0 : c = 0
    · subst hc0
      obtain rfl : m = 0 := by omega
      go_wp2
      go_loopw [42] (fun v wr => v = .int .i64 0 ∧ wr = w3) (fun _ _ => 0)
      case atStart => exact ⟨rfl, rfl⟩
      case round =>
        obtain ⟨rfl, rfl⟩ := hrel
        obtain ⟨f1, f2, -⟩ := HST.out _ hB3
        have F1' := Lib.hid f1
        have F2' := Lib.hid f2
        clear f1 f2
        go_wp2
        go_ret
        exact ⟨rfl, F2, O1, F1'.out, F2'.out⟩
    · go_wp2
      go_loopw [42] (fun v wr => ∃ k : Nat, v = .int .i64 k ∧ k ≤ m ∧ Below w2.heap.size w2 wr) (fun v _ => m - (intOf v).toNat)
      case atStart => exact ⟨0, rfl, Nat.zero_le _, hB3⟩
      case round =>
        obtain ⟨k, rfl, hk, hB⟩ := hrel
        have hBo : ∀ o : Obj, Below w2.heap.size w2 (wr.alloc o) := fun o => hB.alloc hB.size o
        by_cases hlt : k < m
        · obtain ⟨-, -, era⟩ := HST.out wr hB
          obtain ⟨g3, o3, x, y, e3, c0, c1⟩ := HAT.out wr _ era k hlt
          simp at e3
          obtain ⟨rfl, rfl⟩ := e3
          rw [Nat.zero_add] at c0 c1
          clear HST HAT era
          go_wp2_with fail
          refine (pages3_any x y _).mono ?_
          rintro e w6 ⟨rfl, hB6⟩
          have hB7 : Below w2.heap.size w2 w6 := (hBo _).trans (hB6.mono (hBo (boxE x y)).size)
          go_wp2
          go_roundw
          case rel => exact ⟨k + 1, by go_num, by omega, hB7⟩
          case measure => simp [intOf]; omega
        · obtain rfl : m = k := by omega
          obtain ⟨f1, f2, -⟩ := HST.out _ hB
          have F1' := Lib.hid f1
          have F2' := Lib.hid f2
          clear f1 f2 HST HAT
          go_wp2
          go_ret
          exact ⟨rfl, F2, O1, F1'.out, F2'.out⟩
set_option maxHeartbeats 4000000 in
set_option maxRecDepth 100000 in
theorem walkP_branch {ob : Nat} (h0 : w0.heap.size ≤ w.heap.size) (hw : w.heap.size ≤ ob) (hos : ob ≠ s) (hot : ob ≠ t) (hsl : s < w.heap.size) (htl : t < w.heap.size) (d : Nat) (IH : WalkP w0 w s dk t root F n V D S ob d) (at_ : Nat) (l : List Ent) (hld : loadM S at_ = some (2, l))
    (es : List Ent) (pgs : List Nat) (hwk : walkM.walksM ⟨#[]⟩ S (walkM ⟨#[]⟩ d S) (l.drop (cIx l ⟨#[]⟩)) = some (es, pgs)) (pre : List Nat) (W : World) (F1 : Nat → Prop) (N : Int) (O : Nat → Prop)
    (hJ : PJ w0 w s dk t root F n V D S ob pre W F1 N O) (hd : d + 1 ≤ 66) (hl : pre.length + 1 + pgs.length ≤ 100000) (hN : N + 4 + 4 * (pgs.length : Int) < 1000000000) :
    Calls Tryz.prog 47 #[.pointer (some ⟨t, 0, none⟩), .int .i64 at_, .int .i64 (66 - ((d + 1 : Nat) : Int)), .string ⟨#[]⟩, .func (.func 48) #[] #[.pointer (some ⟨ob, 0, none⟩)], .func (.func 49) #[] #[]] W fun e w' =>
      e = .returned (.bool true) ∧ ∃ F2 O2, PJ w0 w s dk t root F n V D S ob (pre ++ at_ :: pgs) w' F2 (N + 4 + 4 * (pgs.length : Int)) O2 ∧ Rest W F1 O w' F2 O2 := by
  have hfine := (loadM_ok hJ.run.tin.shows hld).1
  have hlen := hfine.len
  have hasc := hfine.asc
  have hne : 0 < l.length := List.length_pos_iff.2 fun e => (loadM_some hld).2 ⟨rfl, e⟩
  rw [cIx_empty, List.drop_zero] at hwk
  have hP2 := pages2_any hJ h0 hw hos hot hsl htl (by omega) at_
  have hall : ∀ q ∈ l, q.1.size ≤ 32 ∧ q.2.size ≤ 64 := hfine.all
  have HLD : Hid (∀ w1 O1, PJ w0 w s dk t root F n V D S ob (pre ++ [at_]) w1 F1 N O1 → Rest W F1 O w1 F1 O1 → Calls Tryz.prog 39 #[.pointer (some ⟨t, 0, none⟩), .int .i64 at_] w1 fun e w2 => ∃ g c F2, e = .returned (.tuple #[.int .i64 2, .slice (some ⟨g, 0, none⟩) l.length c]) ∧ l.length ≤ c ∧
      Calls Tryz.prog 42 #[.slice (some ⟨g, 0, none⟩) l.length c, .string ⟨#[]⟩] w2 fun e w3 => e = .returned (.int .i64 0) ∧ PJ w0 w s dk t root F n V D S ob (pre ++ [at_]) w3 F2 (N + 4) O1 ∧ Rest W F1 O w3 F2 O1 ∧ ∃ obj, w3.heap[g]? = some obj ∧ (∀ Wx, Wx.heap[g]? = some obj → ERow Wx (some ⟨g, 0, none⟩) l) ∧ ¬ F2 g ∧ ¬ O1 g) := fun w1 O1 hj hr => by
    refine (tload_any hj.run.tin at_ 2 l hld (by omega)).mono ?_
    rintro e w2 ⟨F2, v, he, hst, ho, hout⟩
    have row : Row w2 F2 w1.heap.size v l := ⟨ho, hout⟩
    obtain ⟨ao, c, rfl, er, -, -, hlc⟩ := row.parts
    obtain ⟨g, off, rfl, -⟩ := er.at hne
    obtain ⟨g', cur, e2, -, -, hg, -⟩ := row.own.block
    simp at e2
    obtain ⟨rfl, rfl⟩ := e2
    refine ⟨g, c, F2, he, hlc, ?_⟩
    have hch := child_any w2 _ c l ⟨#[]⟩ er hasc (by omega)
    rw [cIx_empty] at hch
    refine hch.mono ?_
    rintro e w3 ⟨he3, hB⟩
    have hg3 := (hB.block _ (lt_of hg)).trans hg
    refine ⟨he3, (hj.step hst).made hB, fun b o hb hf ho2 => ?_, _, hg3, fun Wx hx => er.keep fun g' off' e5 _ => ?_, hout g rfl, fun hO => ?_⟩
    · obtain ⟨r1, r2, r3⟩ := hr b o hb hf ho2
      have r4 := (hst.upd.block b (lt_of r1) r2).trans r1
      refine ⟨(hB.block b (lt_of r4)).trans r4, fun hf2 => ?_, r3⟩
      rcases hst.new b hf2 with h | h
      · exact r2 h
      · have := lt_of r1; omega
    · simp at e5; obtain ⟨rfl, -⟩ := e5; rw [hx, hg]
    · have h1 := (hj.lt g hO).1
      have h2 := (ho.lt g rfl).1
      omega
  have HAT : Hid (∀ W2 g, ERow W2 (some ⟨g, 0, none⟩) l → ∀ k (hk : k < l.length), W2.cell? ⟨g, k * 2, none⟩ = some (.string (l[k]'hk).1) ∧ W2.cell? ⟨g, k * 2 + 1, none⟩ = some (.string (l[k]'hk).2)) := fun W2 g er k hk => by
    obtain ⟨g3, o3, e, d0, d1⟩ := er.at hk
    simp at e
    obtain ⟨rfl, rfl⟩ := e
    rw [Nat.zero_add] at d0 d1
    exact ⟨d0, d1⟩
  have HST : Hid (∀ (k : Nat) (hk : k < l.length) (dn : List Nat) (rs : List Ent) (rp : List Nat), walkM.walksM ⟨#[]⟩ S (walkM ⟨#[]⟩ d S) (l.drop k) = some (rs, rp) → pgs = dn ++ rp → ∀ (W2 : World) (F2 : Nat → Prop) (O2 : Nat → Prop), PJ w0 w s dk t root F n V D S ob (pre ++ at_ :: dn) W2 F2 (N + 4 + 4 * (dn.length : Int)) O2 →
      d ≠ 0 ∧ (∀ W3, Calls Tryz.prog 41 #[.agg #[.string (l[k]'hk).1, .string (l[k]'hk).2]] W3 fun e w' => e = .returned (.int .i64 (pgN (l[k]'hk).2 : Nat)) ∧ Below W3.heap.size W3 w') ∧
      ∃ dn2 rs2 rp2, walkM.walksM ⟨#[]⟩ S (walkM ⟨#[]⟩ d S) (l.drop (k + 1)) = some (rs2, rp2) ∧ pgs = dn2 ++ rp2 ∧
        ∀ W3, Below W2.heap.size W2 W3 → Calls Tryz.prog 47 #[.pointer (some ⟨t, 0, none⟩), .int .i64 (pgN (l[k]'hk).2 : Nat), .int .i64 (66 - (d : Int)), .string ⟨#[]⟩, .func (.func 48) #[] #[.pointer (some ⟨ob, 0, none⟩)], .func (.func 49) #[] #[]] W3 fun e w' =>
          e = .returned (.bool true) ∧ ∃ F3 O3, PJ w0 w s dk t root F n V D S ob (pre ++ at_ :: dn2) w' F3 (N + 4 + 4 * (dn2.length : Int)) O3 ∧ Rest W3 F2 O2 w' F3 O3) := fun k hk dn rs rp hws hp W2 F2 O2 hj => by
    obtain ⟨e1, p1, rs2, rp2, hsz, hg, hws2, rfl, rfl⟩ := walks_step hk hws
    have hsz2 := hall _ (List.getElem_mem hk)
    have hpl : pgs.length = dn.length + (p1.length + rp2.length) := by rw [hp]; simp
    refine ⟨fun e0 => (by subst e0; simp [walkM] at hg), fun W3 => page_of _ _ W3 (by omega) (by omega), dn ++ p1, rs2, rp2, hws2, by rw [hp, List.append_assoc], fun W3 hB => ?_⟩
    refine (IH (pgN (l[k]'hk).2) e1 p1 (pre ++ at_ :: dn) W3 F2 _ O2 hg (hj.made hB) (by omega) (by simp; omega) (by omega)).mono ?_
    rintro e w' ⟨he, F3, O3, hj3, hr3⟩
    refine ⟨he, F3, O3, ?_, hr3⟩
    have e1 : N + 4 + 4 * (((dn ++ p1).length : Nat) : Int) = N + 4 + 4 * (dn.length : Int) + 4 * (p1.length : Int) := by rw [List.length_append]; push_cast; omega
    have e2 : pre ++ at_ :: (dn ++ p1) = (pre ++ at_ :: dn) ++ p1 := by simp
    rw [e1, e2]
    exact hj3
  have HEND : Hid (∀ (dn : List Nat) (rs : List Ent) (rp : List Nat), walkM.walksM ⟨#[]⟩ S (walkM ⟨#[]⟩ d S) (l.drop l.length) = some (rs, rp) → pgs = dn ++ rp → dn = pgs) := fun dn rs rp h hp => by
    rw [List.drop_length] at h
    simp only [walkM.walksM, Option.some.injEq, Prod.mk.injEq] at h
    obtain ⟨rfl, rfl⟩ := h
    simp at hp
    exact hp.symm
  have HW0 : Hid (walkM.walksM ⟨#[]⟩ S (walkM ⟨#[]⟩ d S) (l.drop 0) = some (es, pgs)) := hwk
  have HDN : Hid (d ≠ 0 → ∀ W, Calls Tryz.prog 38 #[.int .i64 (66 - ((d : Int) + 1))] W fun e w' => e = .returned (.int .i64 (66 - (d : Int))) ∧ W = w') := fun hd0 W => by
    have := down_any (66 - ((d : Int) + 1)) W (by omega) (by omega)
    rw [show 66 - ((d : Int) + 1) + 1 = 66 - (d : Int) by omega] at this
    exact this
  clear hJ hld hfine hasc hall hwk IH
  obtain ⟨m, HM⟩ : ∃ m, Hid (l.length = m) := ⟨_, Lib.hid rfl⟩
  rw [HM.out] at HLD hlen hne HEND
  push_cast
  go_enter Tryz.func47, Tryz.ntmps47
  go_wp2_with fail
  refine hP2.mono ?_
  rintro e w1 ⟨rfl, O1, hj1, hr1⟩
  have hl1 := HLD.out w1 O1 hj1 hr1
  clear hP2 HLD hj1 hr1
  go_wp2_with fail
  refine hl1.mono ?_
  rintro e w2 ⟨g, c, F2, rfl, hlc, hch⟩
  clear hl1
  have z3 : (m : Int) ≤ (c : Int) := by omega
  have hc0 : ¬ (c = 0) := by omega
  go_wp2_with fail
  refine hch.mono ?_
  rintro e w3 ⟨rfl, hj3, hr3, obj, hob, hrow, hg1, hg2⟩
  have HJ3 := Lib.hid hj3
  have HR3 := Lib.hid hr3
  have HOB : Hid (w3.heap[g]? = some obj) := hob
  have HROW := Lib.hid hrow
  have HG1 : Hid (¬ F2 g) := hg1
  have HG2 : Hid (¬ O1 g) := hg2
  clear hch hj3 hr3 hob hrow hg1 hg2
  go_wp2
  go_loopw [57] (fun v wr => ∃ (k : Nat) (dn : List Nat) (rs : List Ent) (rp : List Nat) (F' : Nat → Prop) (O' : Nat → Prop), v = .int .i64 k ∧ k ≤ m ∧ Hid (walkM.walksM ⟨#[]⟩ S (walkM ⟨#[]⟩ d S) (l.drop k) = some (rs, rp) ∧ pgs = dn ++ rp) ∧ Hid (PJ w0 w s dk t root F n V D S ob (pre ++ at_ :: dn) wr F' (N + 4 + 4 * (dn.length : Int)) O') ∧ Hid (wr.heap[g]? = some obj) ∧ Hid (¬ F' g) ∧ Hid (¬ O' g) ∧ Hid (Rest W F1 O wr F' O')) (fun v _ => m - (intOf v).toNat)
  case atStart => exact ⟨0, [], es, pgs, F2, O1, rfl, Nat.zero_le _, ⟨HW0.out, rfl⟩, by simpa using HJ3, HOB, HG1, HG2, HR3⟩
  case round =>
    obtain ⟨k, dn, rs, rp, F', O', rfl, hk, HW, HJ, HB, HGF, HG, HR⟩ := hrel
    by_cases hlt : k < m
    · have hlt' : k < l.length := by rw [HM.out]; exact hlt
      obtain ⟨c0, c1⟩ := HAT.out wr g (HROW.out wr HB.out) k hlt'
      have hBx : Below wr.heap.size wr (wr.alloc (boxE l[k].1 l[k].2)) := (Below.refl _ wr).alloc (Nat.le_refl _) _
      obtain ⟨hd0, hpg, dn2, rs2, rp2, hw2, hp2, hwk⟩ := HST.out k hlt' dn rs rp HW.out.1 HW.out.2 _ F' O' (HJ.out.made hBx)
      have hpg2 := hpg (wr.alloc (boxE l[k].1 l[k].2))
      have HWK := Lib.hid hwk
      have HW2 : Hid (walkM.walksM ⟨#[]⟩ S (walkM ⟨#[]⟩ d S) (l.drop (k + 1)) = some (rs2, rp2) ∧ pgs = dn2 ++ rp2) := ⟨hw2, hp2⟩
      have HST3 : Hid (∀ W3, Below (wr.alloc (boxE l[k].1 l[k].2)).heap.size (wr.alloc (boxE l[k].1 l[k].2)) W3 → W3.heap[g]? = some obj ∧ Rest W F1 O W3 F' O') := fun W3 hB3 => by
        have h1 := (hBx.block _ (lt_of HB.out)).trans HB.out
        refine ⟨(hB3.block _ (lt_of h1)).trans h1, fun b o hb hf ho => ?_⟩
        obtain ⟨r1, r2, r3⟩ := HR.out b o hb hf ho
        have r4 := (hBx.block b (lt_of r1)).trans r1
        exact ⟨(hB3.block b (lt_of r4)).trans r4, r2, r3⟩
      have hdn := HDN.out hd0
      clear HJ3 HOB HG1 HG2 HR3 HJ HB HR HW hBx HAT HST hpg hwk hw2 hp2 HW0 HROW
      generalize l[k].1 = x at *
      generalize l[k].2 = y at *
      generalize pgN y = py at *
      go_wp2_with fail
      refine hpg2.mono ?_
      rintro e W3 ⟨rfl, hB3⟩
      have hwk := HWK.out W3 hB3
      obtain ⟨h3a, h3b⟩ := HST3.out W3 hB3
      have HH3 : Hid (W3.heap[g]? = some obj ∧ Rest W F1 O W3 F' O') := ⟨h3a, h3b⟩
      clear hpg2 HWK HST3 h3a h3b
      go_wp2_with fail
      refine (hdn W3).mono ?_
      rintro e W3' ⟨rfl, rfl⟩
      go_wp2_with fail
      refine hwk.mono ?_
      rintro e W4 ⟨rfl, F4, O4, hj4, hr4⟩
      obtain ⟨s1, s2, s3⟩ := hr4 _ _ HH3.out.1 HGF.out HG.out
      have HJ4 := Lib.hid hj4
      have HS1 : Hid (W4.heap[g]? = some obj) := s1
      have HS2 : Hid (¬ F4 g) := s2
      have HS3 : Hid (¬ O4 g) := s3
      have HR4 : Hid (Rest W F1 O W4 F4 O4) := HH3.out.2.trans hr4
      clear hj4 hr4 s1 s2 s3 HH3 hwk
      go_wp2
      go_roundw
      case rel => exact ⟨k + 1, dn2, rs2, rp2, F4, O4, by go_num, by omega, HW2, HJ4, HS1, HS2, HS3, HR4⟩
      case measure => simp [intOf]; omega
    · obtain rfl : m = k := by omega
      have HJ4 : Hid (PJ w0 w s dk t root F n V D S ob (pre ++ at_ :: pgs) wr F' (N + 4 + 4 * (pgs.length : Int)) O') := by
        obtain ⟨a1, a2⟩ := HW.out
        have := HEND.out dn rs rp a1 a2
        subst this
        exact HJ.out
      clear HJ HROW HAT HST HEND HW HJ3 HR3
      go_wp2
      go_ret
      exact ⟨rfl, F', O', HJ4.out, HR.out⟩
theorem walkP_any {ob : Nat} (h0 : w0.heap.size ≤ w.heap.size) (hw : w.heap.size ≤ ob) (hos : ob ≠ s) (hot : ob ≠ t) (hsl : s < w.heap.size) (htl : t < w.heap.size) : ∀ d, WalkP w0 w s dk t root F n V D S ob d
  | 0 => fun at_ es pgs pre W F1 N O hw => by simp [walkM] at hw
  | d + 1 => fun at_ es pgs pre W F1 N O hwk hJ hd hl hN => by
    simp only [walkM, Option.bind_eq_some_iff] at hwk
    obtain ⟨⟨kind, l⟩, hld, hwk⟩ := hwk
    simp only at hwk
    have hfine := (loadM_ok hJ.run.tin.shows hld).1
    by_cases hk1 : kind = 1
    · subst hk1
      rw [if_pos rfl] at hwk
      simp only [Option.some.injEq, Prod.mk.injEq] at hwk
      obtain ⟨rfl, rfl⟩ := hwk
      simp only [List.length_singleton] at hN ⊢
      have := walkP_leaf h0 hw hos hot hsl htl at_ l hld (66 - ((d + 1 : Nat) : Int)) pre W F1 N O hJ (by omega) (by omega)
      simpa using this
    · rw [if_neg hk1] at hwk
      have hk2 : kind = 2 := by rcases hfine.kind with h | h <;> omega
      subst hk2
      simp only [Option.map_eq_some_iff, Prod.mk.injEq] at hwk
      obtain ⟨r, hr, rfl, rfl⟩ := hwk
      have e : N + 4 * (((at_ :: r.2).length : Nat) : Int) = N + 4 + 4 * (r.2.length : Int) := by simp only [List.length_cons]; push_cast; omega
      rw [e] at hN ⊢
      simp only [List.length_cons] at hl
      exact walkP_branch h0 hw hos hot hsl htl d (walkP_any h0 hw hos hot hsl htl d) at_ l hld r.1 r.2 hr pre W F1 N O hJ hd (by omega) hN
end
def zN (l : List Nat) : List Int := l.map fun (k : Nat) => (k : Int)
def sortZ (l : List Nat) : List Int := (zN l).mergeSort fun x y => decide (x ≤ y)
theorem sortZ_len (l : List Nat) : (sortZ l).length = l.length := by simp [sortZ, zN]
theorem sort_ints {W : World} {B : Nat} {ao : Option Addr} {co : Nat} {pre : List Nat} (h : W.ownsRow B 3 1 (.slice ao pre.length co) pre.length (pre.map encN)) (hl : pre.length ≤ 100000) :
    Calls Tryz.prog 50 #[.slice ao pre.length co] W fun e w' => e = .returned (.tuple #[]) ∧ w'.ownsRow B 3 1 (.slice ao pre.length co) pre.length ((sortZ pre).map (Value.int .i64)) ∧ Upd (fun b => (Value.slice ao pre.length co).ownBlock = some b) W w' := by
  rcases h.2 with ⟨hv, h0⟩ | ⟨g, cap, cur, hv, hb, hg, hn, hm, hs, ht⟩
  · obtain rfl : pre = [] := List.length_eq_zero_iff.1 h0
    refine (Tryz.slices_Sort_int_none ao co W).mono ?_
    rintro e w' ⟨he, rfl⟩
    refine ⟨he, ?_, Upd.refl _ _⟩
    simpa [sortZ, zN] using h
  · simp at hv
    obtain ⟨rfl, rfl⟩ := hv
    have ht2 : cur.toList.take (zN pre).length = (zN pre).map (Value.int .i64) := by
      have e1 : (zN pre).map (Value.int .i64) = pre.map encN := by unfold zN encN; rw [List.map_map]; rfl
      rw [e1, ← ht]
      simp [zN]
    have hH := holds_of_blockI hg ht2
    have hz : (zN pre).length = pre.length := by simp [zN]
    have := Tryz.slices_Sort_int g 0 co (zN pre) W hH (lt_of hg) (by omega)
    rw [hz] at this
    refine this.mono ?_
    rintro e w' ⟨he, q, os, rfl⟩
    refine ⟨he, ?_, (Upd.refl _ W).grown (grownBy_sortedI _) fun x e _ => by simpa [Value.ownBlock] using e⟩
    have := ownsRow_sortedI (w := W) (base := B) (g := g) (cap := co) (n := q) (os := os) (cur := cur) (ss := zN pre) (ts := sortZ pre) (by simp [sortZ]) hb hg (by omega) hm hs
    rw [hz] at this
    exact this
section
variable {B : World} {F2 : Nat → Prop}
set_option maxHeartbeats 4000000 in
set_option maxRecDepth 100000 in
theorem tpages_any (h : TIn w0 w s dk F n V D N t root S) (es : List Ent) (pgs : List Nat) (hwk : walkM ⟨#[]⟩ 66 S root = some (es, pgs)) (hl : pgs.length ≤ 90000) (hN : N < 900000000) :
    Calls Tryz.prog 17 #[.pointer (some ⟨t, 0, none⟩)] w fun e w' => ∃ F' ao co, e = .returned (.tuple #[.slice ao pgs.length co, .int .i64 0]) ∧ TRun w0 w w' s dk F F' n V D (N + 4 * (pgs.length : Int)) t root S ∧ w'.ownsRow w.heap.size 3 1 (.slice ao pgs.length co) pgs.length ((sortZ pgs).map (Value.int .i64)) ∧ ∀ b, (Value.slice ao pgs.length co).ownBlock = some b → ¬ F' b := by
  have hb0 := h.sin.below.size
  have hsl := h.sin.slt
  have htl := lt_of h.at_.obj
  obtain ⟨W1, hW1⟩ : ∃ W1, (w.alloc (.cells #[.slice none 0 0] 44)).alloc (.cells #[.int .i64 0] 26) = W1 := ⟨_, rfl⟩
  have hB1 : Below w.heap.size w W1 := by rw [← hW1]; exact ((Below.refl w.heap.size w).alloc (Nat.le_refl _) _).alloc (by simp) _
  have o1 : W1.heap[w.heap.size]? = some (.cells #[.slice none 0 0] 44 (0, 0)) := by rw [← hW1]; exact (Below.heap_alloc _ _ _ (by simp)).trans (heap_alloc_new' w _)
  have o2 : W1.heap[w.heap.size + 1]? = some (.cells #[.int .i64 0] 26 (0, 0)) := by
    rw [← hW1]
    have := heap_alloc_new' (w.alloc (.cells #[.slice none 0 0] 44)) (.cells #[.int .i64 0] 26 (0, 0))
    rwa [World.size_alloc] at this
  have hnf1 : ¬ F w.heap.size := fun hf => by have := h.lt _ hf; omega
  have hnf2 : ¬ F (w.heap.size + 1) := fun hf => by have := h.lt _ hf; omega
  have hr1 := h.run.made hB1
  obtain ⟨-, c1⟩ := hr1.tin.cell
  have hPJ : PJ w0 w s dk t root F n V D S w.heap.size [] W1 F N (fun b => b = w.heap.size) := ⟨hr1, ⟨none, 0, o1, World.ownsRow_nil _ _ _ _, fun b => by simp [Value.ownBlock]⟩, fun b hb => by subst hb; exact hnf1⟩
  have hWK := walkP_any hb0 (Nat.le_refl _) (by omega) (by omega) hsl htl 66 root es pgs [] W1 F N _ hwk hPJ (by omega) (by simp; omega) (by omega)
  rw [List.nil_append, show (66 : Int) - ((66 : Nat) : Int) = 0 by rfl] at hWK
  have HE : Hid (∀ (w2 : World) F1 O1, PJ w0 w s dk t root F n V D S w.heap.size pgs w2 F1 (N + 4 * (pgs.length : Int)) O1 → Rest W1 F (fun b => b = w.heap.size) w2 F1 O1 → ∃ ao co, w2.cell? ⟨w.heap.size, 0, none⟩ = some (.slice ao pgs.length co) ∧ Calls Tryz.prog 50 #[.slice ao pgs.length co] w2 fun e w3 => e = .returned (.tuple #[]) ∧
      w3.cell? ⟨w.heap.size, 0, none⟩ = some (.slice ao pgs.length co) ∧ w3.frozen? ⟨w.heap.size, 0, none⟩ = false ∧ (∀ W4, W4 = w3.setCell ⟨w.heap.size, 0, none⟩ (.slice ao pgs.length co) → W4.cell? ⟨w.heap.size + 1, 0, none⟩ = some (.int .i64 0) ∧ W4.frozen? ⟨w.heap.size + 1, 0, none⟩ = false ∧ ∀ W5, W5 = W4.setCell ⟨w.heap.size + 1, 0, none⟩ (.int .i64 0) → W5.cell? ⟨w.heap.size, 0, none⟩ = some (.slice ao pgs.length co) ∧ W5.cell? ⟨w.heap.size + 1, 0, none⟩ = some (.int .i64 0) ∧ TRun w0 w W5 s dk F F1 n V D (N + 4 * (pgs.length : Int)) t root S ∧ W5.ownsRow w.heap.size 3 1 (.slice ao pgs.length co) pgs.length ((sortZ pgs).map (Value.int .i64)) ∧ ∀ b, (Value.slice ao pgs.length co).ownBlock = some b → ¬ F1 b)) := fun w2 F1 O1 hj hrest => by
    obtain ⟨ao, co, x1, x2, x3⟩ := hj.ex
    obtain ⟨y1, y2, y3⟩ := hrest (w.heap.size + 1) _ o2 hnf2 (by omega)
    refine ⟨ao, co, by rw [cell_of x1]; rfl, (sort_ints x2 (by omega)).mono ?_⟩
    rintro e w3 ⟨he, hown, hupd⟩
    have hnb : ∀ b, (Value.slice ao pgs.length co).ownBlock = some b → w.heap.size + 1 ≤ b := fun b hb => (x2.lt b hb).1
    have hnO : ∀ b, (Value.slice ao pgs.length co).ownBlock = some b → b ≠ w.heap.size + 1 := fun b hb e => y3 ((x3 _).2 (.inr (e ▸ hb)))
    have p1 := (hupd.block _ (lt_of x1) (fun hb => by have := hnb _ hb; omega)).trans x1
    have p2 := (hupd.block _ (lt_of y1) (fun hb => hnO _ hb rfl)).trans y1
    have hr3 := hj.run.turnG hb0 hupd (fun b hb => ⟨by have := hnb b hb; omega, hj.out b ((x3 b).2 (.inr hb)), by have := hnb b hb; omega, by have := hnb b hb; omega⟩)
    refine ⟨he, by rw [cell_of p1]; rfl, frozen_of p1 0, fun W4 e4 => ?_⟩
    subst e4
    have hnf : ¬ F1 w.heap.size := hj.out _ ((x3 _).2 (.inl rfl))
    have q1 := heap_setCell_same p1 0 (.slice ao pgs.length co)
    have q2 : (w3.setCell ⟨w.heap.size, 0, none⟩ (.slice ao pgs.length co)).heap[w.heap.size + 1]? = some (.cells #[.int .i64 0] 26 (0, 0)) := (setCell_other (by omega)).trans p2
    have hr4 := hr3.cell hb0 (Nat.le_refl _) hnf (by omega) (by omega) 0 (.slice ao pgs.length co)
    refine ⟨by rw [cell_of q2]; rfl, frozen_of q2 0, fun W5 e5 => ?_⟩
    subst e5
    have q3 := heap_setCell_same q2 0 (.int .i64 0)
    have q4 := (setCell_other (w := w3.setCell ⟨w.heap.size, 0, none⟩ (.slice ao pgs.length co)) (b := w.heap.size + 1) (i := 0) (u := .int .i64 0) (g := w.heap.size) (by omega)).trans q1
    have hr5 := hr4.cell hb0 (by omega) y2 (by omega) (by omega) 0 (.int .i64 0)
    refine ⟨by rw [cell_of q4]; rfl, by rw [cell_of q3]; rfl, hr5, ?_, fun b hb => hj.out b ((x3 b).2 (.inr hb))⟩
    refine ownsRow_base' (ownsRow_keep hown fun x hx => ?_) (by omega)
    have h1 := hnb x hx
    have h2 := hnO x hx
    exact (setCell_other (by omega)).trans (setCell_other (by omega))
  have HW1 := Lib.hid hW1
  clear h hr1 o1 hB1 hPJ o2 hnf1 hnf2 hwk
  generalize sortZ pgs = zs at *
  obtain ⟨np, hnp⟩ : ∃ np, pgs.length = np := ⟨_, rfl⟩
  rw [hnp] at HE hWK hl ⊢
  go_enter_defers Tryz.func17, Tryz.ntmps17
  go_wp2_with fail
  refine hWK.mono ?_
  rintro e w2 ⟨rfl, F1, O1, hj, hrest⟩
  obtain ⟨ao, co, cob, hso⟩ := HE.out w2 F1 O1 hj hrest
  clear hWK HE hj hrest
  go_wp2_with fail
  refine hso.mono ?_
  rintro e w3 ⟨rfl, c3, f3, hx⟩
  obtain ⟨c4, f4, hy⟩ := hx _ rfl
  obtain ⟨c5, c6, hr5, ho5, hx5⟩ := hy _ rfl
  have HX5 := Lib.hid hx5
  have HR5 := Lib.hid hr5
  have HO5 := Lib.hid ho5
  clear hso hx hy hr5 ho5 hx5
  go_wp2
  generalize (w3.setCell ⟨w.heap.size, 0, none⟩ (.slice ao np co)).setCell ⟨w.heap.size + 1, 0, none⟩ (.int .i64 0) = W5 at *
  refine leaves_cons (f := 27) (args := #[.pointer (some ⟨w.heap.size + 1, 0, none⟩)]) (by simp) (by simp [go_sem]) ?_
  refine (settle_idle ⟨w.heap.size + 1, 0, none⟩ _).mono ?_
  rintro e u' w'' ⟨rfl, rfl, rfl⟩
  refine leaves_cons (f := 46) (args := #[.pointer (some ⟨w.heap.size + 1, 0, none⟩), .pointer (some ⟨w.heap.size, 0, none⟩)]) (by simp [settle]) (by simp [go_sem]) ?_
  refine (pages1_idle (w.heap.size + 1) w.heap.size _ _ c6).mono ?_
  rintro e u' w7 ⟨rfl, rfl, rfl⟩
  have h7 := HR5.out
  have h8 := HO5.out
  have h9 := HX5.out
  clear HR5 HO5 HX5 HW1 hW1
  simp [Leaves, settle, results, Tryz.results17, go_sem, c5, c6]
  exact ⟨_, _, _, ⟨rfl, rfl⟩, h7, h8, h9⟩
end
end
end Go.Proofs.YtmgcaohpbaiiaaaGreatDoor
