/- The reference's space: its calls · The reference's space: its calls that answer and turn · The reference's space: Alloc, List · The reference's space: Copy · What a space's pages show, and the reference's space: the same. (Plain.) · long; SameInts · same: a space is as the reference has it. -/
import Derived.Test.YtdoankamaobkoaaGreatDoorS2
import Derived.OneCell
import Derived.IntWalk
import Derived.Deep.RegionHeld3
namespace Go.Proofs.YtdoankamaobkoaaGreatDoor
/-! Ref12 -/
section
set_option linter.unusedSimpArgs false
set_option linter.unusedVariables false
open Go.RowKit Go.Maps Go.Shelf

/-- the blocks from lo to hi -/
def seg (lo hi : Nat) (b : Nat) : Prop := lo ≤ b ∧ b < hi
structure RIn (w : World) (r lo hi : Nat) (z : Int) (R : Rf) : Prop where
  ex : ∃ gp gt cp ct, RefAt lo w r (.slice (some ⟨gp, 0, none⟩) (spMany z) cp) (.slice (some ⟨gt, 0, none⟩) (spMany z) ct) z R ∧ gp < hi ∧ gt < hi
  rhi : r < hi
  sz : 64 ≤ z ∧ z ≤ 2048
  np : R.pages.length = spMany z
  nt : R.taken.length = spMany z
theorem row_form {w : World} {base size n : Nat} {e : TypeId} {v : Value} {xs : List Value} (h : w.ownsRow base e size v n xs) (hn : 0 < n) : ∃ g cap, v = .slice (some ⟨g, 0, none⟩) n cap := by
  rcases h.2 with ⟨_, hr⟩ | ⟨g, cap, cur, hv, _⟩
  · omega
  · exact ⟨g, cap, hv⟩
theorem refIn {base hi : Nat} {w : World} {r : Nat} {vp vt : Value} {z : Int} {R : Rf} (h : RefAt base w r vp vt z R) (hh : ∀ b, refFp r vp vt b → b < hi) (hz : 64 ≤ z ∧ z ≤ 2048) (hp : R.pages.length = spMany z) (ht : R.taken.length = spMany z) : RIn w r base hi z R := by
  obtain ⟨m1, m2, m3⟩ := spMany_bd hz.1 hz.2
  have h1 := h.pages
  have h2 := h.taken
  rw [hp] at h1
  rw [ht] at h2
  obtain ⟨gp, cp, rfl⟩ := row_form h1 (by omega)
  obtain ⟨gt, ct, rfl⟩ := row_form h2 (by omega)
  exact ⟨⟨gp, gt, cp, ct, h, hh gp (.inr (.inl rfl)), hh gt (.inr (.inr rfl))⟩, hh r (.inl rfl), hz, hp, ht⟩
/-- what a walk sees of it -/
structure RSee (w : World) (r gp gt lo hi : Nat) (z : Int) (R : Rf) (m cp ct : Nat) : Prop where
  c0 : w.cell? ⟨r, 0, none⟩ = some (.int .i64 z)
  c1 : w.cell? ⟨r, 1, none⟩ = some (.string R.top)
  c2 : w.cell? ⟨r, 2, none⟩ = some (.slice (some ⟨gp, 0, none⟩) m cp)
  c3 : w.cell? ⟨r, 3, none⟩ = some (.slice (some ⟨gt, 0, none⟩) m ct)
  fr : ∀ i, w.frozen? ⟨r, i, none⟩ = false
  pg : ∀ i, i < m → w.cell? ⟨gp, i, none⟩ = some (.string (R.pages.getD i ⟨#[]⟩))
  fp : ∀ i, w.frozen? ⟨gp, i, none⟩ = false
  tk : ∀ i, i < m → w.cell? ⟨gt, i, none⟩ = some (.bool (R.taken.getD i false))
  ft : ∀ i, w.frozen? ⟨gt, i, none⟩ = false
  sr : lo ≤ r ∧ r < hi ∧ r < w.heap.size
  sp : lo ≤ gp ∧ gp < hi ∧ gp < w.heap.size ∧ gp ≠ r ∧ gp ≠ gt
  st : lo ≤ gt ∧ gt < hi ∧ gt < w.heap.size ∧ gt ≠ r
  top : ∀ x, RIn (w.setCell ⟨r, 1, none⟩ (.string x)) r lo hi z ⟨x, R.pages, R.taken⟩
  put : ∀ i x, i < m → RIn (w.setCell ⟨gp, i, none⟩ (.string x)) r lo hi z ⟨R.top, R.pages.set i x, R.taken⟩
  give : ∀ i b, i < m → RIn (w.setCell ⟨gt, i, none⟩ (.bool b)) r lo hi z ⟨R.top, R.pages, R.taken.set i b⟩
  np : R.pages.length = m
  nt : R.taken.length = m
theorem ownsRow_stored1 {w : World} {base g cap n : Nat} {e : TypeId} {xs : List Value} (h : w.ownsRow base e 1 (.slice (some ⟨g, 0, none⟩) n cap) n xs) (j : Nat) (u : Value) :
    (w.setCell ⟨g, j, none⟩ u).ownsRow base e 1 (.slice (some ⟨g, 0, none⟩) n cap) n (xs.set j u) := (h.stored j u).1
theorem setCell_kept {w : World} {b g i : Nat} {u : Value} {o : Obj} (h : g ≠ b) (ho : w.heap[g]? = some o) : (w.setCell ⟨b, i, none⟩ u).heap[g]? = some o := (setCell_other h).trans ho
theorem cell_in {w : World} {g i : Nat} {c : Array Value} {t : TypeId} {f : Nat × Nat} {v : Value} (h : w.heap[g]? = some (.cells c t f)) (hv : c[i]? = some v) : w.cell? ⟨g, i, none⟩ = some v := by rw [cell_of h]; exact hv
theorem RIn.see {w : World} {r lo hi : Nat} {z : Int} {R : Rf} (h : RIn w r lo hi z R) : ∃ gp gt cp ct, RSee w r gp gt lo hi z R (spMany z) cp ct := by
  obtain ⟨⟨gp, gt, cp, ct, hR, h1, h2⟩, h3, h4, hp, ht⟩ := h
  have o1 := hR.pages
  have o2 := hR.taken
  rw [hp] at o1
  rw [ht] at o2
  have l1 := o1.lt gp rfl
  have l2 := o2.lt gt rfl
  obtain ⟨x1, e1⟩ := ownsRow_block o1 rfl
  obtain ⟨x2, e2⟩ := ownsRow_block o2 rfl
  have n1 : gp ≠ r := fun e => by rw [e, hR.obj] at e1; simp at e1
  have n2 : gt ≠ r := fun e => by rw [e, hR.obj] at e2; simp at e2
  have n3 : gp ≠ gt := fun e => by rw [e, e2] at e1; simp at e1
  refine ⟨gp, gt, cp, ct, cell_in hR.obj rfl, cell_in hR.obj rfl, cell_in hR.obj rfl, cell_in hR.obj rfl, fun i => frozen_of hR.obj i, fun i hi => ?_, fun i => o1.frozenAt i, fun i hi => ?_, fun i => o2.frozenAt i,
    ⟨hR.new, h3, lt_of hR.obj⟩, ⟨l1.1, h1, l1.2, n1, n3⟩, ⟨l2.1, h2, l2.2, n2⟩, fun x => ?_, fun i x hi => ?_, fun i b hi => ?_, hp, ht⟩
  · rw [o1.cellAt i (by omega), List.getElem?_map, List.getElem?_eq_getElem (by omega), List.getD_eq_getElem?_getD, List.getElem?_eq_getElem (by omega)]; rfl
  · rw [o2.cellAt i (by omega), List.getElem?_map, List.getElem?_eq_getElem (by omega), List.getD_eq_getElem?_getD, List.getElem?_eq_getElem (by omega)]; rfl
  · refine ⟨⟨gp, gt, cp, ct, ⟨heap_setCell_same hR.obj 1 _, ?_, ?_, hR.new⟩, h1, h2⟩, h3, h4, hp, ht⟩
    · exact ownsRow_setCell_other hR.pages (by show some gp ≠ some r; simpa using n1) _
    · exact ownsRow_setCell_other hR.taken (by show some gt ≠ some r; simpa using n2) _
  · refine ⟨⟨gp, gt, cp, ct, ⟨setCell_kept n1.symm hR.obj, ?_, ?_, hR.new⟩, h1, h2⟩, h3, h4, by simpa using hp, ht⟩
    · have := ownsRow_stored1 o1 i (.string x)
      rw [List.length_set, List.map_set, hp]; exact this
    · exact ownsRow_setCell_other hR.taken (by show some gt ≠ some gp; simpa using n3.symm) _
  · refine ⟨⟨gp, gt, cp, ct, ⟨setCell_kept n2.symm hR.obj, ?_, ?_, hR.new⟩, h1, h2⟩, h3, h4, hp, by simpa using ht⟩
    · exact ownsRow_setCell_other hR.pages (by show some gp ≠ some gt; simpa using n3) _
    · have := ownsRow_stored1 o2 i (.bool b)
      rw [List.length_set, List.map_set, ht]; exact this
theorem RIn.upd {w w' : World} {r lo hi : Nat} {z : Int} {R : Rf} {F : Nat → Prop} (h : RIn w r lo hi z R) (hu : Upd F w w') (hF : ∀ b, lo ≤ b → b < hi → ¬ F b) : RIn w' r lo hi z R := by
  obtain ⟨⟨gp, gt, cp, ct, hR, h1, h2⟩, h3, h4, hp, ht⟩ := h
  refine ⟨⟨gp, gt, cp, ct, ⟨(hu.block r (lt_of hR.obj) (hF r hR.new h3)).trans hR.obj, ?_, ?_, hR.new⟩, h1, h2⟩, h3, h4, hp, ht⟩
  · have l := hR.pages.lt gp rfl
    exact ownsRow_keep hR.pages fun g hg => by obtain rfl : gp = g := Option.some.inj hg; exact hu.block gp l.2 (hF gp l.1 h1)
  · have l := hR.taken.lt gt rfl
    exact ownsRow_keep hR.taken fun g hg => by obtain rfl : gt = g := Option.some.inj hg; exact hu.block gt l.2 (hF gt l.1 h2)
theorem RIn.made {w w' : World} {r lo hi : Nat} {z : Int} {R : Rf} (h : RIn w r lo hi z R) (hB : Below w.heap.size w w') : RIn w' r lo hi z R :=
  h.upd (F := fun _ => False) (Upd.below hB fun x hx hn => by omega) (fun _ _ _ hf => hf)

/-! ### The plain side. -/
def rOut (z at' : Int) : Prop := at' < jFirst z + 1 ∨ jFirst z + 1 + spMany z ≤ at'
instance (z at' : Int) : Decidable (rOut z at') := by unfold rOut; infer_instance
def rPl (z at' : Int) : Int := if rOut z at' then -1 else at' - (jFirst z + 1)
def rMay (z : Int) (R : Rf) (at' : Int) : Int := if rOut z at' then 1 else if R.taken.getD (at' - (jFirst z + 1)).toNat false then 0 else 8
def rIx (z : Int) (R : Rf) (at' : Int) : Int := if rMay z R at' = 0 then at' - (jFirst z + 1) else 0

section
variable {w : World} {r lo hi : Nat} {z : Int} {R : Rf}
set_option maxHeartbeats 1000000 in
set_option maxRecDepth 100000 in
theorem place_any (h : RIn w r lo hi z R) (at' : Int) : Calls Tryz.prog 113 #[.pointer (some ⟨r, 0, none⟩), .int .i64 at'] w fun e w' => e = .returned (.int .i64 (rPl z at')) ∧ w = w' := by
  obtain ⟨gp, gt, cp, ct, hS⟩ := h.see
  obtain ⟨m1, m2, m3⟩ := spMany_bd h.sz.1 h.sz.2
  have hF := jFirst_bd z
  have hFS := rfirst_any z w h.sz.1 h.sz.2
  have c0 := hS.c0
  have c2 := hS.c2
  by_cases ho : rOut z at'
  · rw [show rPl z at' = -1 from if_pos ho]
    unfold rOut at ho
    clear hS h m3
    generalize spMany z = m at *
    generalize jFirst z = f at *
    by_cases h1 : at' < f + 1
    · go_enter Tryz.func113, Tryz.ntmps113
      go_wp2_with (go_at_call 10; refine hFS.mono ?_; rintro e w' ⟨rfl, rfl⟩)
      go_ret
      exact ⟨rfl, rfl⟩
    · have h2 : f + 1 + m ≤ at' := by omega
      go_enter Tryz.func113, Tryz.ntmps113
      go_wp2_with (go_at_call 10; refine hFS.mono ?_; rintro e w' ⟨rfl, rfl⟩)
      go_ret
      exact ⟨rfl, rfl⟩
  · rw [show rPl z at' = at' - (jFirst z + 1) from if_neg ho]
    unfold rOut at ho
    clear hS h m3
    generalize spMany z = m at *
    generalize jFirst z = f at *
    go_enter Tryz.func113, Tryz.ntmps113
    go_wp2_with (go_at_call 10; refine hFS.mono ?_; rintro e w' ⟨rfl, rfl⟩)
    go_ret
    exact ⟨rfl, rfl⟩
set_option maxHeartbeats 1000000 in
set_option maxRecDepth 100000 in
theorem may12_any (h : RIn w r lo hi z R) (at' : Int) : Calls Tryz.prog 88 #[.pointer (some ⟨r, 0, none⟩), .int .i64 at'] w fun e w' => e = .returned (.tuple #[.int .i64 (rIx z R at'), .int .i64 (rMay z R at')]) ∧ w = w' := by
  obtain ⟨gp, gt, cp, ct, hS⟩ := h.see
  obtain ⟨m1, m2, m3⟩ := spMany_bd h.sz.1 h.sz.2
  have hF := jFirst_bd z
  have hP := place_any h at'
  have c3 := hS.c3
  by_cases ho : rOut z at'
  · have e1 : rMay z R at' = 1 := if_pos ho
    have e2 : rIx z R at' = 0 := by unfold rIx; rw [e1]; rfl
    rw [show rPl z at' = -1 from if_pos ho] at hP
    rw [e1, e2]
    clear hS h m3 e1 e2
    go_enter Tryz.func88, Tryz.ntmps88
    go_wp2_with (go_at_call 113; refine hP.mono ?_; rintro e w' ⟨rfl, rfl⟩)
    go_ret2
    exact ⟨rfl, rfl⟩
  · obtain ⟨i, hi'⟩ : ∃ i : Nat, at' = jFirst z + 1 + i := ⟨(at' - (jFirst z + 1)).toNat, by unfold rOut at ho; omega⟩
    have him : i < spMany z := by unfold rOut at ho; omega
    subst hi'
    rw [show rPl z (jFirst z + 1 + (i : Int)) = i by unfold rPl; rw [if_neg ho]; omega] at hP
    have ct' := hS.tk i him
    have e0 : (jFirst z + 1 + (i : Int) - (jFirst z + 1)).toNat = i := by omega
    cases hb : R.taken.getD i false with
    | true =>
      have e1 : rMay z R (jFirst z + 1 + (i : Int)) = 0 := by unfold rMay; rw [if_neg ho, e0, hb]; rfl
      have e2 : rIx z R (jFirst z + 1 + (i : Int)) = i := by unfold rIx; rw [if_pos e1]; omega
      rw [e1, e2]
      rw [hb] at ct'
      clear hS h m3 e1 e2 e0
      generalize spMany z = m at *
      generalize jFirst z = f at *
      go_enter Tryz.func88, Tryz.ntmps88
      go_wp2_with (go_at_call 113; refine hP.mono ?_; rintro e w' ⟨rfl, rfl⟩)
      go_ret2
      exact ⟨rfl, rfl⟩
    | false =>
      have e1 : rMay z R (jFirst z + 1 + (i : Int)) = 8 := by unfold rMay; rw [if_neg ho, e0, hb]; rfl
      have e2 : rIx z R (jFirst z + 1 + (i : Int)) = 0 := by unfold rIx; rw [e1]; rfl
      rw [e1, e2]
      rw [hb] at ct'
      clear hS h m3 e1 e2 e0
      generalize spMany z = m at *
      generalize jFirst z = f at *
      go_enter Tryz.func88, Tryz.ntmps88
      go_wp2_with (go_at_call 113; refine hP.mono ?_; rintro e w' ⟨rfl, rfl⟩)
      go_ret2
      exact ⟨rfl, rfl⟩
end
end
/-! Ref12b -/
section
set_option linter.unusedSimpArgs false
set_option linter.unusedVariables false
open Go.RowKit Go.Maps Go.Shelf

theorem rMay_cases {w : World} {r lo hi : Nat} {z : Int} {R : Rf} (h : RIn w r lo hi z R) (at' : Int) :
    (rMay z R at' ≠ 0 ∧ rIx z R at' = 0) ∨ ∃ i : Nat, i < spMany z ∧ at' = jFirst z + 1 + i ∧ rMay z R at' = 0 ∧ rIx z R at' = i ∧ R.taken.getD i false = true := by
  by_cases h0 : rMay z R at' = 0
  · right
    have ho : ¬ rOut z at' := fun ho => by
      have : rMay z R at' = 1 := if_pos ho
      omega
    have ho' := ho
    unfold rOut at ho'
    refine ⟨(at' - (jFirst z + 1)).toNat, by omega, by omega, h0, by unfold rIx; rw [if_pos h0]; omega, ?_⟩
    unfold rMay at h0
    rw [if_neg ho] at h0
    by_cases hb : R.taken.getD (at' - (jFirst z + 1)).toNat false = true
    · exact hb
    · rw [if_neg hb] at h0; omega
  · exact .inl ⟨h0, if_neg h0⟩
/-- a page's place among them -/
def rAt (z at' : Int) : Nat := (at' - (jFirst z + 1)).toNat
def rGet (z : Int) (R : Rf) (at' : Int) : ByteArray := if rMay z R at' = 0 then R.pages.getD (rAt z at') ⟨#[]⟩ else ⟨#[]⟩
def rPutE (z : Int) (R : Rf) (at' : Int) (x : ByteArray) : Int := if rMay z R at' = 0 then (if x.size = 256 then 0 else 3) else rMay z R at'
def rPut (z : Int) (R : Rf) (at' : Int) (x : ByteArray) : Rf := if rMay z R at' = 0 ∧ x.size = 256 then ⟨R.top, R.pages.set (rAt z at') x, R.taken⟩ else R
def rRel (z : Int) (R : Rf) (at' : Int) : Rf := if rMay z R at' = 0 then ⟨R.top, R.pages, R.taken.set (rAt z at') false⟩ else R
def rHead (R : Rf) (x : ByteArray) : Rf := if x.size = 248 then ⟨x, R.pages, R.taken⟩ else R
section
variable {w : World} {r lo hi : Nat} {z : Int} {R : Rf}
set_option maxHeartbeats 1000000 in
set_option maxRecDepth 100000 in
theorem rget_any (h : RIn w r lo hi z R) (at' : Int) : Calls Tryz.prog 55 #[.pointer (some ⟨r, 0, none⟩), .int .i64 at'] w fun e w' => e = .returned (.tuple #[.string (rGet z R at'), .int .i64 (rMay z R at')]) ∧ w = w' := by
  obtain ⟨gp, gt, cp, ct, hS⟩ := h.see
  obtain ⟨m1, m2, m3⟩ := spMany_bd h.sz.1 h.sz.2
  have hP := may12_any h at'
  have c2 := hS.c2
  have hF := jFirst_bd z
  rcases rMay_cases h at' with ⟨h0, h1⟩ | ⟨i, him, he, h0, h1, htk⟩
  · rw [show rGet z R at' = ⟨#[]⟩ from if_neg h0]
    rw [h1] at hP
    clear hS h m3 h1
    generalize rMay z R at' = c at *
    go_enter Tryz.func55, Tryz.ntmps55
    go_wp2_with (go_at_call 88; refine hP.mono ?_; rintro e w' ⟨rfl, rfl⟩)
    go_ret2
    exact ⟨rfl, rfl⟩
  · have cg := hS.pg i him
    rw [show rGet z R at' = R.pages.getD i ⟨#[]⟩ by unfold rGet; rw [if_pos h0]; congr 1; unfold rAt; omega, h0]
    rw [h0, h1] at hP
    clear hS h m3 h1 h0 htk he hF
    generalize spMany z = m at *
    generalize R.pages.getD i ⟨#[]⟩ = x at *
    go_enter Tryz.func55, Tryz.ntmps55
    go_wp2_with (go_at_call 88; refine hP.mono ?_; rintro e w' ⟨rfl, rfl⟩)
    go_ret2
    exact ⟨rfl, rfl⟩
set_option maxHeartbeats 1000000 in
set_option maxRecDepth 100000 in
theorem rput_any (h : RIn w r lo hi z R) (at' : Int) (x : ByteArray) (hx : x.size ≤ 9223372036854775807) : Calls Tryz.prog 58 #[.pointer (some ⟨r, 0, none⟩), .int .i64 at', .string x] w fun e w' => e = .returned (.int .i64 (rPutE z R at' x)) ∧ RIn w' r lo hi z (rPut z R at' x) ∧ Upd (seg lo hi) w w' := by
  obtain ⟨gp, gt, cp, ct, hS⟩ := h.see
  obtain ⟨m1, m2, m3⟩ := spMany_bd h.sz.1 h.sz.2
  have hP := may12_any h at'
  have c2 := hS.c2
  have hF := jFirst_bd z
  have H := Lib.hid h
  rcases rMay_cases h at' with ⟨h0, h1⟩ | ⟨i, him, he, h0, h1, htk⟩
  · rw [show rPutE z R at' x = rMay z R at' from if_neg h0, show rPut z R at' x = R from if_neg (fun hx => h0 hx.1)]
    rw [h1] at hP
    clear hS h m3 h1
    generalize rMay z R at' = c at *
    go_enter Tryz.func58, Tryz.ntmps58
    go_wp2_with (go_at_call 88; refine hP.mono ?_; rintro e w' ⟨rfl, rfl⟩)
    go_ret
    exact ⟨rfl, H.out, Upd.refl _ _⟩
  · by_cases hsz : x.size = 256
    · have fz := hS.fp i
      have cg := hS.pg i him
      have hput := Lib.hid (hS.put i x him)
      have hsp := Lib.hid hS.sp
      rw [show rPutE z R at' x = 0 by unfold rPutE; rw [if_pos h0, if_pos hsz], show rPut z R at' x = ⟨R.top, R.pages.set i x, R.taken⟩ by unfold rPut; rw [if_pos ⟨h0, hsz⟩]; congr 2; unfold rAt; omega]
      rw [h0, h1] at hP
      clear hS h m3 h1 h0 htk H he hF
      generalize spMany z = m at *
      generalize R.pages.getD i ⟨#[]⟩ = y at *
      go_enter Tryz.func58, Tryz.ntmps58
      go_wp2_with (go_at_call 88; refine hP.mono ?_; rintro e w' ⟨rfl, rfl⟩)
      go_ret
      exact ⟨rfl, hput.out, (Upd.refl _ w).setCell ⟨gp, i, none⟩ (fun _ => ⟨hsp.out.1, hsp.out.2.1⟩) _⟩
    · rw [show rPutE z R at' x = 3 by unfold rPutE; rw [if_pos h0, if_neg hsz], show rPut z R at' x = R from if_neg (fun hx => hsz hx.2)]
      rw [h0, h1] at hP
      clear hS h m3 h1 h0 htk he hF
      generalize spMany z = m at *
      go_enter Tryz.func58, Tryz.ntmps58
      go_wp2_with (go_at_call 88; refine hP.mono ?_; rintro e w' ⟨rfl, rfl⟩)
      go_ret
      exact ⟨rfl, H.out, Upd.refl _ _⟩
set_option maxHeartbeats 1000000 in
set_option maxRecDepth 100000 in
theorem rrel_any (h : RIn w r lo hi z R) (at' : Int) : Calls Tryz.prog 60 #[.pointer (some ⟨r, 0, none⟩), .int .i64 at'] w fun e w' => e = .returned (.int .i64 (rMay z R at')) ∧ RIn w' r lo hi z (rRel z R at') ∧ Upd (seg lo hi) w w' := by
  obtain ⟨gp, gt, cp, ct, hS⟩ := h.see
  obtain ⟨m1, m2, m3⟩ := spMany_bd h.sz.1 h.sz.2
  have hP := may12_any h at'
  have c2 := hS.c3
  have hF := jFirst_bd z
  have H := Lib.hid h
  rcases rMay_cases h at' with ⟨h0, h1⟩ | ⟨i, him, he, h0, h1, htk⟩
  · rw [show rRel z R at' = R from if_neg h0]
    rw [h1] at hP
    clear hS h m3 h1
    generalize rMay z R at' = c at *
    go_enter Tryz.func60, Tryz.ntmps60
    go_wp2_with (go_at_call 88; refine hP.mono ?_; rintro e w' ⟨rfl, rfl⟩)
    go_ret
    exact ⟨rfl, H.out, Upd.refl _ _⟩
  · have fz := hS.ft i
    have cg := hS.tk i him
    have hput := Lib.hid (hS.give i false him)
    have hsp := Lib.hid hS.st
    rw [h0, show rRel z R at' = ⟨R.top, R.pages, R.taken.set i false⟩ by unfold rRel; rw [if_pos h0]; congr 2; unfold rAt; omega]
    rw [h0, h1] at hP
    clear hS h m3 h1 h0 H he hF
    generalize spMany z = m at *
    generalize R.taken.getD i false = y at *
    go_enter Tryz.func60, Tryz.ntmps60
    go_wp2_with (go_at_call 88; refine hP.mono ?_; rintro e w' ⟨rfl, rfl⟩)
    go_ret
    exact ⟨rfl, hput.out, (Upd.refl _ w).setCell ⟨gt, i, none⟩ (fun _ => ⟨hsp.out.1, hsp.out.2.1⟩) _⟩
set_option maxHeartbeats 1000000 in
set_option maxRecDepth 100000 in
theorem rhead_any (h : RIn w r lo hi z R) (x : ByteArray) (hx : x.size ≤ 9223372036854775807) : Calls Tryz.prog 61 #[.pointer (some ⟨r, 0, none⟩), .string x] w fun e w' => e = .returned (.int .i64 (if x.size = 248 then 0 else 3)) ∧ RIn w' r lo hi z (rHead R x) ∧ Upd (seg lo hi) w w' := by
  obtain ⟨gp, gt, cp, ct, hS⟩ := h.see
  have c1 := hS.c1
  have fz := hS.fr 1
  have H := Lib.hid h
  have hput := Lib.hid (hS.top x)
  have hsp := Lib.hid hS.sr
  clear hS h
  by_cases hsz : x.size = 248
  · rw [if_pos hsz, show rHead R x = ⟨x, R.pages, R.taken⟩ from if_pos hsz]
    go_enter Tryz.func61, Tryz.ntmps61
    go_wp2
    go_ret
    exact ⟨rfl, hput.out, (Upd.refl _ w).setCell ⟨r, 1, none⟩ (fun _ => ⟨hsp.out.1, hsp.out.2.1⟩) _⟩
  · rw [if_neg hsz, show rHead R x = R from if_neg hsz]
    go_enter Tryz.func61, Tryz.ntmps61
    go_wp2
    go_ret
    exact ⟨rfl, H.out, Upd.refl _ _⟩
end
end
/-! Ref12c -/
section
set_option linter.unusedSimpArgs false
set_option linter.unusedVariables false
open Go.RowKit Go.Maps Go.Shelf

theorem RSee.at {w W : World} {r gp gt lo hi m cp ct : Nat} {z : Int} {R : Rf} (h : RSee w r gp gt lo hi z R m cp ct) (hB : Below w.heap.size w W) :
    W.cell? ⟨r, 0, none⟩ = some (.int .i64 z) ∧ W.cell? ⟨r, 2, none⟩ = some (.slice (some ⟨gp, 0, none⟩) m cp) ∧ W.cell? ⟨r, 3, none⟩ = some (.slice (some ⟨gt, 0, none⟩) m ct) ∧ ∀ i, i < m → W.cell? ⟨gt, i, none⟩ = some (.bool (R.taken.getD i false)) :=
  ⟨(hB.cell (p := ⟨r, 0, none⟩) h.sr.2.2).trans h.c0, (hB.cell (p := ⟨r, 2, none⟩) h.sr.2.2).trans h.c2, (hB.cell (p := ⟨r, 3, none⟩) h.sr.2.2).trans h.c3, fun i hi => (hB.cell (p := ⟨gt, i, none⟩) h.st.2.2.1).trans (h.tk i hi)⟩
theorem RSee.same {w w' : World} {r gp gt lo hi m cp ct gp' gt' lo' hi' m' cp' ct' : Nat} {z z' : Int} {R R' : Rf} (h : RSee w r gp gt lo hi z R m cp ct) (h' : RSee w' r gp' gt' lo' hi' z' R' m' cp' ct') (e : w'.cell? ⟨r, 2, none⟩ = w.cell? ⟨r, 2, none⟩) : gp' = gp ∧ cp' = cp := by
  rw [h.c2, h'.c2] at e
  simp at e
  exact ⟨e.1, e.2.2⟩
def rGot (R : Rf) (k : Nat) : Rf := ⟨R.top, R.pages.set k (zerosB 256), R.taken.set k true⟩
section
variable {w : World} {r lo hi : Nat} {z : Int} {R : Rf}
set_option maxHeartbeats 2000000 in
set_option maxRecDepth 100000 in
theorem ralloc_some (h : RIn w r lo hi z R) (k : Nat) (hk : k < spMany z) (ha : ∀ j, j < k → R.taken.getD j false = true) (hf : R.taken.getD k false = false) :
    Calls Tryz.prog 59 #[.pointer (some ⟨r, 0, none⟩)] w fun e w' => e = .returned (.tuple #[.int .i64 (jFirst z + 1 + k), .int .i64 0]) ∧ RIn w' r lo hi z (rGot R k) ∧ Upd (seg lo hi) w w' := by
  obtain ⟨gp, gt, cp, ct, hS⟩ := h.see
  obtain ⟨m1, m2, m3⟩ := spMany_bd h.sz.1 h.sz.2
  have hF := jFirst_bd z
  have HFS : Hid (∀ W, Calls Tryz.prog 10 #[.int .i64 z] W fun e w' => e = .returned (.int .i64 (jFirst z)) ∧ W = w') := fun W => rfirst_any z W h.sz.1 h.sz.2
  have HZW : Hid (∀ w5, Below w.heap.size (w.setCell ⟨gt, k, none⟩ (.bool true)) w5 → w5.cell? ⟨r, 2, none⟩ = some (.slice (some ⟨gp, 0, none⟩) (spMany z) cp) ∧ (∃ y, w5.cell? ⟨gp, k, none⟩ = some (.string y)) ∧ w5.frozen? ⟨gp, k, none⟩ = false ∧
      (w5.setCell ⟨gp, k, none⟩ (.string (zerosB 256))).cell? ⟨r, 0, none⟩ = some (.int .i64 z) ∧
      RIn (w5.setCell ⟨gp, k, none⟩ (.string (zerosB 256))) r lo hi z (rGot R k) ∧ Upd (seg lo hi) w (w5.setCell ⟨gp, k, none⟩ (.string (zerosB 256)))) := fun w5 hB => by
    have h1 := hS.give k true hk
    have hB' : Below (w.setCell ⟨gt, k, none⟩ (.bool true)).heap.size (w.setCell ⟨gt, k, none⟩ (.bool true)) w5 := by simpa using hB
    obtain ⟨gp', gt', cp', ct', hS5⟩ := (h1.made hB').see
    have hr : r < w.heap.size := hS.sr.2.2
    have e2 : w5.cell? ⟨r, 2, none⟩ = w.cell? ⟨r, 2, none⟩ := (hB.cell (p := ⟨r, 2, none⟩) hr).trans (World.cell?_of_block (w := w) (setCell_other hS.st.2.2.2.symm))
    obtain ⟨rfl, rfl⟩ := hS.same hS5 e2
    have h6 := hS5.put k (zerosB 256) hk
    obtain ⟨_, _, _, _, hS6⟩ := h6.see
    refine ⟨hS5.c2, ⟨_, hS5.pg k hk⟩, hS5.fp k, hS6.c0, h6, ?_⟩
    have u1 : Upd (seg lo hi) w (w.setCell ⟨gt, k, none⟩ (.bool true)) := (Upd.refl _ w).setCell ⟨gt, k, none⟩ (fun _ => ⟨hS.st.1, hS.st.2.1⟩) _
    have u2 : Upd (seg lo hi) (w.setCell ⟨gt, k, none⟩ (.bool true)) w5 := Upd.below hB' fun x hx hle => by omega
    exact (u1.trans u2).setCell ⟨gp', k, none⟩ (fun _ => ⟨hS5.sp.1, hS5.sp.2.1⟩) _
  have c3 := hS.c3
  have fz := hS.ft k
  have HTK : Hid (∀ j, j ≤ k → w.cell? ⟨gt, j, none⟩ = some (.bool (decide (j < k)))) := fun j hj => by
    rw [hS.tk j (by omega)]
    by_cases e : j < k
    · rw [ha j e]; simp [e]
    · obtain rfl : j = k := by omega
      rw [hf]; simp
  clear hS h m3 ha hf
  generalize rGot R k = R2 at *
  generalize spMany z = m at *
  generalize jFirst z = f at *
  go_enter Tryz.func59, Tryz.ntmps59
  go_wp2
  go_loopw [10] (fun i wr => ∃ j : Nat, i = .int .i64 j ∧ j ≤ k ∧ wr = w) (fun i _ => m - (intOf i).toNat)
  case atStart => exact ⟨0, rfl, by omega, by simp⟩
  case round =>
    obtain ⟨j, rfl, hj, rfl⟩ := hrel
    have ctk := HTK.out j hj
    by_cases hlt : j < k
    · rw [decide_eq_true hlt] at ctk
      go_wp2
      go_roundw
      case rel => exact ⟨j + 1, by go_num, by omega, trivial⟩
      case measure => simp [intOf]; omega
    · obtain rfl : j = k := by omega
      rw [decide_eq_false hlt] at ctk
      have hgs : gt < wr.heap.size := World.block_lt_of_cell? wr _ ctk
      have hW1 := HZW.out _ ((Below.refl wr.heap.size (wr.setCell ⟨gt, j, none⟩ (.bool true))).drew)
      obtain ⟨c2d, _⟩ := hW1
      have HZ := Lib.hid (fun W => zeros_any 256 W (by omega))
      clear HTK
      go_upto_region 6 with fail
      go_region_law (first
        | (go_simp; go_at_call 56; refine (HZ.out _).mono ?_; rintro e w5 ⟨rfl, hB5⟩
           obtain ⟨c5, ⟨y5, p5⟩, f5, hc0, hR5, hU5⟩ := HZW.out w5 (((Below.refl _ (wr.setCell ⟨gt, j, none⟩ (.bool true))).drew).trans (by simpa using hB5))))
      all_goals
        have HR5 := Lib.hid hR5
        have HU5 := Lib.hid hU5
        have hfs := HFS.out (w5.setCell ⟨gp, j, none⟩ (.string (zerosB 256)))
        clear hR5 hU5 HZW HZ c5 p5 f5
        go_wp2_with (go_at_call 10; refine hfs.mono ?_; rintro e w' ⟨rfl, rfl⟩)
        go_ret2
        exact ⟨rfl, HR5.out, HU5.out⟩
set_option maxHeartbeats 1000000 in
set_option maxRecDepth 100000 in
theorem ralloc_none (h : RIn w r lo hi z R) (ha : ∀ j, j < spMany z → R.taken.getD j false = true) :
    Calls Tryz.prog 59 #[.pointer (some ⟨r, 0, none⟩)] w fun e w' => e = .returned (.tuple #[.int .i64 0, .int .i64 16]) ∧ w = w' := by
  obtain ⟨gp, gt, cp, ct, hS⟩ := h.see
  obtain ⟨m1, m2, m3⟩ := spMany_bd h.sz.1 h.sz.2
  have c3 := hS.c3
  have HTK : Hid (∀ j, j < spMany z → w.cell? ⟨gt, j, none⟩ = some (.bool true)) := fun j hj => by rw [hS.tk j hj, ha j hj]
  clear hS h m3 ha
  generalize spMany z = m at *
  go_enter Tryz.func59, Tryz.ntmps59
  go_wp2
  go_loopw [10] (fun i wr => ∃ j : Nat, i = .int .i64 j ∧ j ≤ m ∧ wr = w) (fun i _ => m - (intOf i).toNat)
  case atStart => exact ⟨0, rfl, by omega, by simp⟩
  case round =>
    obtain ⟨j, rfl, hj, rfl⟩ := hrel
    by_cases hlt : j < m
    · have ctk := HTK.out j hlt
      go_wp2
      go_roundw
      case rel => exact ⟨j + 1, by go_num, by omega, trivial⟩
      case measure => simp [intOf]; omega
    · obtain rfl : j = m := by omega
      go_wp2
      go_ret2
      exact ⟨rfl, rfl⟩
end
/-- the first k of the user's pages, those that are taken -/
def rList (z : Int) (R : Rf) (k : Nat) : List Int := ((List.range k).filter fun j => R.taken.getD j false).map fun (j : Nat) => jFirst z + 1 + (j : Int)
theorem rList_succ (z : Int) (R : Rf) (k : Nat) : rList z R (k + 1) = if R.taken.getD k false then rList z R k ++ [jFirst z + 1 + (k : Int)] else rList z R k := by
  unfold rList
  rw [List.range_succ, List.filter_append, List.map_append]
  simp only [List.filter_cons, List.filter_nil]
  cases R.taken.getD k false <;> simp
theorem rList_length (z : Int) (R : Rf) (k : Nat) : (rList z R k).length ≤ k := by
  unfold rList
  rw [List.length_map]
  exact Nat.le_trans (List.length_filter_le _ _) (by simp)
set_option maxHeartbeats 1000000 in
set_option maxRecDepth 100000 in
theorem rlist_any {w : World} {r lo hi : Nat} {z : Int} {R : Rf} (h : RIn w r lo hi z R) :
    Calls Tryz.prog 53 #[.pointer (some ⟨r, 0, none⟩)] w fun e w' => ∃ a cap, e = .returned (.slice a (rList z R (spMany z)).length cap) ∧ Below w.heap.size w w' ∧
      w'.ownsRow w.heap.size 3 1 (.slice a (rList z R (spMany z)).length cap) (rList z R (spMany z)).length ((rList z R (spMany z)).map encZ) := by
  obtain ⟨gp, gt, cp, ct, hS⟩ := h.see
  obtain ⟨m1, m2, m3⟩ := spMany_bd h.sz.1 h.sz.2
  have hF := jFirst_bd z
  have HFS : Hid (∀ W, Calls Tryz.prog 10 #[.int .i64 z] W fun e w' => e = .returned (.int .i64 (jFirst z)) ∧ W = w') := fun W => rfirst_any z W h.sz.1 h.sz.2
  have HAT : Hid (∀ W, Below w.heap.size w W → _) := fun W => hS.at (W := W)
  have HTS : Hid (∀ k, rList z R (k + 1) = if R.taken.getD k false then rList z R k ++ [jFirst z + 1 + (k : Int)] else rList z R k) := rList_succ z R
  have HTL : Hid (∀ k, (rList z R k).length ≤ k) := rList_length z R
  have HT0 : Hid (rList z R 0 = []) := rfl
  have c3 := hS.c3
  clear hS h m3
  generalize rList z R = T at *
  generalize spMany z = m at *
  generalize jFirst z = f at *
  go_enter Tryz.func53, Tryz.ntmps53
  go_wp2
  clear c3
  go_loopw [3, 10] (fun o i wr => ∃ (k : Nat) (a : Option Addr) (cap : Nat), i = .int .i64 k ∧ k ≤ m ∧ o = .slice a (T k).length cap ∧ Hid (wr.ownsRow w.heap.size 3 1 (.slice a (T k).length cap) (T k).length ((T k).map encZ)) ∧ Hid (Below w.heap.size w wr)) (fun _ i _ => m - (intOf i).toNat)
  case atStart => exact ⟨0, none, 0, rfl, by omega, by rw [HT0.out]; rfl, Lib.hid (by rw [HT0.out]; exact World.ownsRow_nil _ _ _ _), Lib.hid (Below.refl _ _)⟩
  case round =>
    obtain ⟨k, a, cap, rfl, hk, rfl, HO, HB⟩ := hrel
    obtain ⟨c0, c2, c3, ctk⟩ := HAT.out wr HB.out
    clear c2
    by_cases hlt : k < m
    · have ck := ctk k hlt
      have hts := HTS.out k
      clear ctk
      cases hbit : R.taken.getD k false with
      | false =>
        rw [hbit] at ck hts
        have HTK : Hid (T (k + 1) = T k) := by show _ = _; rw [hts]; simp
        clear hbit hts
        go_wp2
        go_roundw
        case rel => exact ⟨k + 1, a, cap, by go_num, by omega, by rw [HTK.out], Lib.hid (by rw [HTK.out]; exact HO.out), HB⟩
        case measure => simp [intOf]; omega
      | true =>
        rw [hbit] at ck hts
        have HTK : Hid (T (k + 1) = T k ++ [f + 1 + (k : Int)]) := by show _ = _; rw [hts]; simp
        have htl := HTL.out k
        have hfs := HFS.out wr
        obtain ⟨ao, co, w3, hr, HOW0, HBL0⟩ := one_append 3 57 (.int .i64 0) 8 info_int Tryz.underlying57 rfl (by omega) wr w.heap.size _ _ _ (.int .i64 (f + 1 + k)) rfl HO.out (by omega) HB.out.size
        have HOW := Lib.hid HOW0
        have HBL := Lib.hid HBL0
        clear hbit hts HOW0 HBL0
        go_wp2_with (first
          | (go_at_call 10; refine hfs.mono ?_; rintro e w' ⟨rfl, rfl⟩)
          | (at_builtin; refine wpList_append_run hr rfl rfl rfl rfl rfl ?_))
        go_roundw
        case rel =>
          have hlen : (T (k + 1)).length = (T k).length + 1 := by rw [HTK.out]; simp
          refine ⟨k + 1, ao, co, by go_num, by omega, by rw [hlen], ?_, ?_⟩
          · show World.ownsRow _ _ _ _ _ _ _
            rw [hlen, HTK.out, List.map_append]
            exact HOW.out
          · exact HBL.out w w.heap.size HB.out (Nat.le_refl _) (Nat.le_refl _)
        case measure => simp [intOf]; omega
    · obtain rfl : k = m := by omega
      clear ctk
      go_wp2
      go_ret
      exact ⟨a, cap, rfl, HB.out, HO.out⟩
end
/-! RCopy -/
section
set_option linter.unusedSimpArgs false
set_option linter.unusedVariables false
open Go.RowKit Go.Maps Go.Shelf

/-- a whole row appended to nothing -/
theorem all_append (te sl : TypeId) (z : Value) (by_ : Nat) (hinfo : (Tryz.prog.info? te).map (fun i => (i.zero, i.size, i.bytes)) = some (some z, 1, by_)) (hu : Tryz.prog.underlying sl = some (.slice te)) (hz : z.cells.size = 1) (hby : by_ ≤ 24)
    (W : World) (base g m cap : Nat) (news : List Value) (hm : news.length = m) (h0 : 0 < m) (hmm : m ≤ 1000000) (h1 : ∀ u ∈ news, u.oneCell' = true) (hc : ∀ j u, news[j]? = some u → W.cell? ⟨g, j, none⟩ = some u) (hb : base ≤ W.heap.size) :
    ∃ ao co w3, (Builtin.append_ #[sl, sl] sl #[.slice none 0 0, .slice (some ⟨g, 0, none⟩) m cap]).run Tryz.prog W = .ok (.slice (some ⟨ao, 0, none⟩) m co) w3 ∧
      w3.ownsRow base te 1 (.slice (some ⟨ao, 0, none⟩) m co) m news ∧ Below W.heap.size W w3 := by
  obtain ⟨i0, hi, hz0, hz1, hz2⟩ := info_parts hinfo
  obtain ⟨v3, w3, hr, hown3, hgr, _⟩ := run_append_own (P := Tryz.prog) W base sl sl te i0 z 1 by_ hu hi hz0 hz1 hz2 hz (by omega)
    (.slice none 0 0) 0 [] (World.ownsRow_nil _ _ _ _) ⟨g, 0, none⟩ m cap news (by omega) (by
      intro k x hk
      have hadd : Addr.add ⟨g, 0, none⟩ k = ⟨g, k, none⟩ := by unfold Addr.add; split <;> simp_all
      rw [hadd]
      exact hc k x hk) h1 (by unfold maxLen; omega) (by
        calc (0 + m) * by_ ≤ (0 + m) * 24 := Nat.mul_le_mul_left _ hby
          _ ≤ 140737488355328 := by omega) hb
  rw [Nat.zero_add, List.nil_append] at hown3
  obtain ⟨ao, co, rfl⟩ := row_form hown3 (by omega)
  exact ⟨ao, co, w3, hr, hown3, (Below.refl _ W).grown hgr (Nat.le_refl _) (fun k hk => by simp [Value.ownBlock] at hk)⟩
theorem RefAt.setPages {base : Nat} {w : World} {x : Nat} {vp vt vp' : Value} {n : Int} {R : Rf} {ps : List ByteArray} (h : RefAt base w x vp vt n R) (hown : w.ownsRow base 9 1 vp' ps.length (ps.map Value.string)) :
    RefAt base (w.setCell ⟨x, 2, none⟩ vp') x vp' vt n ⟨R.top, ps, R.taken⟩ := by
  refine ⟨heap_setCell_same h.obj 2 vp', ?_, ?_, h.new⟩
  · refine ownsRow_keep hown fun g hg => setCell_other fun e => ?_
    obtain ⟨cur, hc⟩ := ownsRow_block hown hg
    rw [e, h.obj] at hc; simp at hc
  · refine ownsRow_keep h.taken fun g hg => setCell_other fun e => ?_
    obtain ⟨cur, hc⟩ := ownsRow_block h.taken hg
    rw [e, h.obj] at hc; simp at hc
theorem RefAt.setTaken {base : Nat} {w : World} {x : Nat} {vp vt vt' : Value} {n : Int} {R : Rf} {ts : List Bool} (h : RefAt base w x vp vt n R) (hown : w.ownsRow base 4 1 vt' ts.length (ts.map Value.bool)) :
    RefAt base (w.setCell ⟨x, 3, none⟩ vt') x vp vt' n ⟨R.top, R.pages, ts⟩ := by
  refine ⟨heap_setCell_same h.obj 3 vt', ?_, ?_, h.new⟩
  · refine ownsRow_keep h.pages fun g hg => setCell_other fun e => ?_
    obtain ⟨cur, hc⟩ := ownsRow_block h.pages hg
    rw [e, h.obj] at hc; simp at hc
  · refine ownsRow_keep hown fun g hg => setCell_other fun e => ?_
    obtain ⟨cur, hc⟩ := ownsRow_block hown hg
    rw [e, h.obj] at hc; simp at hc
set_option maxHeartbeats 2000000 in
set_option maxRecDepth 100000 in
theorem rcopy_any {w : World} {r lo hi : Nat} {z : Int} {R : Rf} (h : RIn w r lo hi z R) :
    Calls Tryz.prog 31 #[.pointer (some ⟨r, 0, none⟩)] w fun e w' => ∃ x, e = .returned (.pointer (some ⟨x, 0, none⟩)) ∧ Below w.heap.size w w' ∧ RIn w' x w.heap.size w'.heap.size z R := by
  obtain ⟨gp, gt, cp, ct, hS⟩ := h.see
  obtain ⟨m1, m2, m3⟩ := spMany_bd h.sz.1 h.sz.2
  have hsz := Lib.hid h.sz
  have HFIN : Hid (∀ W x vp vt, RefAt w.heap.size W x vp vt z ⟨R.top, R.pages, R.taken⟩ → RIn W x w.heap.size W.heap.size z R) := fun W x vp vt hx => refIn hx (fun b hb => (hx.fp_lt hb).2) hsz.out hS.np hS.nt
  have hpg : ∀ j u, (R.pages.map Value.string)[j]? = some u → w.cell? ⟨gp, j, none⟩ = some u := fun j u hu => by
    have hj : j < R.pages.length := by
      have := (List.getElem?_eq_some_iff.1 hu).1
      simpa using this
    rw [hS.pg j (by rw [← hS.np]; exact hj), List.getD_eq_getElem?_getD, List.getElem?_eq_getElem hj]
    rw [List.getElem?_map, List.getElem?_eq_getElem hj] at hu
    simpa using hu
  have htk : ∀ j u, (R.taken.map Value.bool)[j]? = some u → w.cell? ⟨gt, j, none⟩ = some u := fun j u hu => by
    have hj : j < R.taken.length := by
      have := (List.getElem?_eq_some_iff.1 hu).1
      simpa using this
    rw [hS.tk j (by rw [← hS.nt]; exact hj), List.getD_eq_getElem?_getD, List.getElem?_eq_getElem hj]
    rw [List.getElem?_map, List.getElem?_eq_getElem hj] at hu
    simpa using hu
  have HP : Hid (∀ W x vt, Below w.heap.size w W → RefAt w.heap.size W x (.slice none 0 0) vt z ⟨R.top, [], []⟩ → W.cell? ⟨x, 2, none⟩ = some (.slice none 0 0) ∧ W.cell? ⟨r, 2, none⟩ = some (.slice (some ⟨gp, 0, none⟩) (spMany z) cp) ∧
      ∃ ao co w3, (Builtin.append_ #[79, 79] 79 #[.slice none 0 0, .slice (some ⟨gp, 0, none⟩) (spMany z) cp]).run Tryz.prog W = .ok (.slice (some ⟨ao, 0, none⟩) (spMany z) co) w3 ∧
        w3.cell? ⟨x, 2, none⟩ = some (.slice none 0 0) ∧ w3.frozen? ⟨x, 2, none⟩ = false ∧ Below w.heap.size w (w3.setCell ⟨x, 2, none⟩ (.slice (some ⟨ao, 0, none⟩) (spMany z) co)) ∧
        RefAt w.heap.size (w3.setCell ⟨x, 2, none⟩ (.slice (some ⟨ao, 0, none⟩) (spMany z) co)) x (.slice (some ⟨ao, 0, none⟩) (spMany z) co) vt z ⟨R.top, R.pages, []⟩) := fun W x vt hB hR => by
    obtain ⟨ao, co, w3, hr, hown, hB3⟩ := all_append 9 79 (.string ⟨#[]⟩) 16 info_str Tryz.underlying79 rfl (by omega) W w.heap.size gp (spMany z) cp (R.pages.map Value.string) (by simpa using hS.np) (by omega) (by omega)
      (fun u hu => by obtain ⟨x, _, rfl⟩ := List.mem_map.1 hu; rfl) (fun j u hu => (hB.cell (p := ⟨gp, j, none⟩) hS.sp.2.2.1).trans (hpg j u hu)) hB.size
    have hR3 := hR.made hB3
    refine ⟨cell_in hR.obj rfl, (hB.cell (p := ⟨r, 2, none⟩) hS.sr.2.2).trans hS.c2, ao, co, w3, hr, cell_in hR3.obj rfl, frozen_of hR3.obj 2, ?_, hR3.setPages (by rw [hS.np]; exact hown)⟩
    exact (hB.trans (hB3.mono hB.size)).setCell (p := ⟨x, 2, none⟩) hR.new _
  have HT : Hid (∀ W x vp, Below w.heap.size w W → RefAt w.heap.size W x vp (.slice none 0 0) z ⟨R.top, R.pages, []⟩ → W.cell? ⟨x, 3, none⟩ = some (.slice none 0 0) ∧ W.cell? ⟨r, 3, none⟩ = some (.slice (some ⟨gt, 0, none⟩) (spMany z) ct) ∧
      ∃ ao co w3, (Builtin.append_ #[37, 37] 37 #[.slice none 0 0, .slice (some ⟨gt, 0, none⟩) (spMany z) ct]).run Tryz.prog W = .ok (.slice (some ⟨ao, 0, none⟩) (spMany z) co) w3 ∧
        w3.cell? ⟨x, 3, none⟩ = some (.slice none 0 0) ∧ w3.frozen? ⟨x, 3, none⟩ = false ∧ Below w.heap.size w (w3.setCell ⟨x, 3, none⟩ (.slice (some ⟨ao, 0, none⟩) (spMany z) co)) ∧
        RefAt w.heap.size (w3.setCell ⟨x, 3, none⟩ (.slice (some ⟨ao, 0, none⟩) (spMany z) co)) x vp (.slice (some ⟨ao, 0, none⟩) (spMany z) co) z ⟨R.top, R.pages, R.taken⟩) := fun W x vp hB hR => by
    obtain ⟨ao, co, w3, hr, hown, hB3⟩ := all_append 4 37 (.bool false) 1 info_bool Tryz.underlying37 rfl (by omega) W w.heap.size gt (spMany z) ct (R.taken.map Value.bool) (by simpa using hS.nt) (by omega) (by omega)
      (fun u hu => by obtain ⟨x, _, rfl⟩ := List.mem_map.1 hu; rfl) (fun j u hu => (hB.cell (p := ⟨gt, j, none⟩) hS.st.2.2.1).trans (htk j u hu)) hB.size
    have hR3 := hR.made hB3
    refine ⟨cell_in hR.obj rfl, (hB.cell (p := ⟨r, 3, none⟩) hS.sr.2.2).trans hS.c3, ao, co, w3, hr, cell_in hR3.obj rfl, frozen_of hR3.obj 3, ?_, hR3.setTaken (by rw [hS.nt]; exact hown)⟩
    exact (hB.trans (hB3.mono hB.size)).setCell (p := ⟨x, 3, none⟩) hR.new _
  have c0 := hS.c0
  have c1 := hS.c1
  have hrl := hS.sr.2.2
  have HA : Hid (∀ W o, Below w.heap.size w W → o = Obj.cells #[.int .i64 z, .string R.top, .slice none 0 0, .slice none 0 0] 89 (0, 0) → Below w.heap.size w (W.alloc o) ∧ RefAt w.heap.size (W.alloc o) W.heap.size (.slice none 0 0) (.slice none 0 0) z ⟨R.top, [], []⟩) := fun W o hB ho => by
    subst ho
    exact ⟨hB.alloc hB.size _, ⟨heap_alloc_new' _ _, World.ownsRow_nil _ _ _ _, World.ownsRow_nil _ _ _ _, hB.size⟩⟩
  clear hS h m3 hpg htk hsz
  generalize spMany z = m at *
  generalize R.top = tp at *
  go_enter Tryz.func31, Tryz.ntmps31
  go_upto_region 1 with fail
  go_region_law (fail)
  all_goals
    obtain ⟨hB1, hR1⟩ := HA.out w _ (Below.refl _ w) rfl
    have HB1 := Lib.hid hB1.drew
    have HR1 := Lib.hid (hR1.made ((Below.refl _ _).drew))
    clear hB1 hR1 c0 c1
    generalize (w.alloc (Obj.cells #[.int .i64 z, .string tp, .slice none 0 0, .slice none 0 0] 89 (0, 0))).drew = w1 at *
    obtain ⟨d2, d2r, ao, co, w3, hrun, e3, f3, hB3, hR3⟩ := HP.out w1.drew w.heap.size _ HB1.out.drew (HR1.out.made ((Below.refl _ _).drew))
    have HB3 := Lib.hid hB3
    have HR3 := Lib.hid hR3
    clear hB3 hR3 HP HR1 HB1
    go_upto_region 2 with fail
    go_region_law (refine step_append_run hrun rfl rfl rfl rfl rfl ?_)
    all_goals
      clear d2 d2r hrun e3 f3
      generalize (w3.setCell ⟨w.heap.size, 2, none⟩ (.slice (some ⟨ao, 0, none⟩) m co)) = w4 at *
      obtain ⟨d3, d3r, ao2, co2, w5, hrun, e5, f5, hB5, hR5⟩ := HT.out w4.drew w.heap.size _ HB3.out.drew (HR3.out.made ((Below.refl _ _).drew))
      have HB5 := Lib.hid hB5
      have HR5 := Lib.hid hR5
      clear hB5 hR5 HT HR3 HB3
      go_upto_region 3 with fail
      go_region_law (refine step_append_run hrun rfl rfl rfl rfl rfl ?_)
      all_goals
        go_wp2
        go_ret
        exact ⟨_, rfl, HB5.out, HFIN.out _ _ _ _ HR5.out⟩
end
/-! SRep -/
section
set_option linter.unusedSimpArgs false
set_option linter.unusedVariables false
set_option linter.unusedSectionVars false
open Go.RowKit Go.Maps Go.Shelf

structure Rep (z : Int) (V : Int → ByteArray) (R : Rf) : Prop where
  top : (V 0).extract 8 256 = R.top
  name : (V 0).extract 0 8 = spName z
  map : MapIs z V (fun j => R.taken.getD j false)
  page : ∀ j, j < spMany z → R.taken.getD j false = true → V (jFirst z + 1 + (j : Int)) = R.pages.getD j ⟨#[]⟩
  np : R.pages.length = spMany z
  nt : R.taken.length = spMany z
theorem set_getD {α : Type} {l : List α} {d x : α} {i : Nat} (j : Nat) (hi : i < l.length) : (l.set i x).getD j d = if j = i then x else l.getD j d := by
  simp only [List.getD_eq_getElem?_getD, List.getElem?_set]
  by_cases e : i = j
  · subst e; simp [hi]
  · rw [if_neg e, if_neg (fun h => e h.symm)]
section
variable {z : Int} {V : Int → ByteArray} {R : Rf} (h : Rep z V R) (h1 : 64 ≤ z) (h2 : z ≤ 2048)
include h h1 h2
theorem rep_taken (i : Int) : spTaken z V i = rMay z R i := by
  obtain ⟨m1, m2, m3⟩ := spMany_bd h1 h2
  unfold spTaken rMay
  by_cases ho : i ≤ jFirst z ∨ jFirst z + jPages z - 2 < i
  · rw [if_pos ho, if_pos (show rOut z i by unfold rOut; omega)]
  · rw [if_neg ho, if_neg (show ¬ rOut z i by unfold rOut; omega)]
    have := h.map.bits (i - (jFirst z + 1)).toNat (by omega)
    rw [show (i - jFirst z).toNat = (i - (jFirst z + 1)).toNat + 1 by omega, this]
theorem rep_in {i : Int} (h0 : rMay z R i = 0) : ∃ j : Nat, j < spMany z ∧ i = jFirst z + 1 + j ∧ rAt z i = j ∧ R.taken.getD j false = true := by
  have ho : ¬ rOut z i := fun ho => by
    have : rMay z R i = 1 := if_pos ho
    omega
  have ho' := ho
  unfold rOut at ho'
  refine ⟨(i - (jFirst z + 1)).toNat, by omega, by omega, rfl, ?_⟩
  unfold rMay at h0
  rw [if_neg ho] at h0
  by_cases hb : R.taken.getD (i - (jFirst z + 1)).toNat false = true
  · exact hb
  · rw [if_neg hb] at h0; omega
theorem rep_get (i : Int) : (if spTaken z V i = 0 then V i else ⟨#[]⟩) = rGet z R i := by
  rw [rep_taken h h1 h2]
  unfold rGet
  by_cases h0 : rMay z R i = 0
  · rw [if_pos h0, if_pos h0]
    obtain ⟨j, hj, he, ha, ht⟩ := rep_in h h1 h2 h0
    rw [ha, he]; exact h.page j hj ht
  · rw [if_neg h0, if_neg h0]
theorem rep_putE (i : Int) (x : ByteArray) : spPut z V i x = rPutE z R i x := by
  unfold spPut rPutE
  rw [rep_taken h h1 h2]
  by_cases h0 : rMay z R i = 0
  · rw [if_neg (by omega), if_pos h0]
    by_cases hx : x.size = 256 <;> simp [hx]
  · rw [if_pos h0, if_neg h0]
theorem rep_put (i : Int) (x : ByteArray) : Rep z (if spPut z V i x = 0 then upd V i x else V) (rPut z R i x) := by
  rw [rep_putE h h1 h2]
  have hF := first_pos h1 h2
  by_cases h0 : rMay z R i = 0
  · by_cases hx : x.size = 256
    · rw [show rPutE z R i x = 0 by unfold rPutE; rw [if_pos h0, if_pos hx], show rPut z R i x = ⟨R.top, R.pages.set (rAt z i) x, R.taken⟩ from if_pos ⟨h0, hx⟩, if_pos rfl]
      obtain ⟨j, hj, he, ha, ht⟩ := rep_in h h1 h2 h0
      subst he
      rw [ha]
      refine ⟨by rw [upd_other _ (by omega)]; exact h.top, by rw [upd_other _ (by omega)]; exact h.name, ⟨fun k hk => by rw [upd_other _ (by omega)]; exact h.map.bits k hk⟩, fun k hk hkt => ?_, by simpa using h.np, h.nt⟩
      show upd V _ x _ = (R.pages.set j x).getD k ⟨#[]⟩
      rw [set_getD k (by rw [h.np]; exact hj)]
      by_cases e : k = j
      · subst e; rw [if_pos rfl, upd_same]
      · rw [if_neg e, upd_other _ (by omega)]; exact h.page k hk hkt
    · rw [show rPutE z R i x = 3 by unfold rPutE; rw [if_pos h0, if_neg hx], show rPut z R i x = R from if_neg (fun hh => hx hh.2), if_neg (by omega)]; exact h
  · rw [show rPutE z R i x = rMay z R i from if_neg h0, show rPut z R i x = R from if_neg (fun hh => h0 hh.1), if_neg h0]; exact h
theorem rep_rel (hsz : (V (jFirst z)).size = 256) (i : Int) : Rep z (if spTaken z V i = 0 then upd V (jFirst z) (flipB (V (jFirst z)) (i - jFirst z).toNat) else V) (rRel z R i) := by
  rw [rep_taken h h1 h2]
  obtain ⟨m1, m2, m3⟩ := spMany_bd h1 h2
  have hF := first_pos h1 h2
  unfold rRel
  by_cases h0 : rMay z R i = 0
  · rw [if_pos h0, if_pos h0]
    obtain ⟨j, hj, he, ha, ht⟩ := rep_in h h1 h2 h0
    subst he
    rw [ha, show (jFirst z + 1 + (j : Int) - jFirst z).toNat = j + 1 by omega]
    have hb := h.map.back hj hsz (by omega) ht
    refine ⟨by rw [upd_other _ (by omega)]; exact h.top, by rw [upd_other _ (by omega)]; exact h.name, hb.congr fun k hk => ?_, fun k hk hkt => ?_, h.np, by simpa using h.nt⟩
    · show _ = (R.taken.set j false).getD k false
      rw [set_getD k (by rw [h.nt]; exact hj)]
      by_cases e : k = j <;> simp [e]
    · rw [upd_other _ (by omega)]
      refine h.page k hk ?_
      have hkt' : (R.taken.set j false).getD k false = true := hkt
      rw [set_getD k (by rw [h.nt]; exact hj)] at hkt'
      by_cases e : k = j
      · rw [if_pos e] at hkt'; cases hkt'
      · rwa [if_neg e] at hkt'
  · rw [if_neg h0, if_neg h0]; exact h
theorem rep_got (hsz : (V (jFirst z)).size = 256) {k : Nat} (hk : k < spMany z) (hf : R.taken.getD k false = false) (hz : zeroPg = zerosB 256) : Rep z (spGot z V k) (rGot R k) := by
  obtain ⟨m1, m2, m3⟩ := spMany_bd h1 h2
  have hF := first_pos h1 h2
  have hg := h.map.got hk hsz (by omega) hf
  have e0 : spGot z V k 0 = V 0 := by unfold spGot; rw [upd_other _ (by omega), upd_other _ (by omega)]
  refine ⟨by rw [e0]; exact h.top, by rw [e0]; exact h.name, hg.congr fun j hj => ?_, fun j hj hjt => ?_, by simpa [rGot] using h.np, by simpa [rGot] using h.nt⟩
  · show _ = (R.taken.set k true).getD j false
    rw [set_getD j (by rw [h.nt]; exact hk)]
    by_cases e : j = k <;> simp [e]
  · show spGot z V k _ = (R.pages.set k (zerosB 256)).getD j ⟨#[]⟩
    rw [set_getD j (by rw [h.np]; exact hk)]
    by_cases e : j = k
    · subst e; rw [if_pos rfl]; unfold spGot; rw [upd_same]; exact hz
    · rw [if_neg e]; unfold spGot; rw [upd_other _ (by omega), upd_other _ (by omega)]
      refine h.page j hj ?_
      have hjt' : (R.taken.set k true).getD j false = true := hjt
      rwa [set_getD j (by rw [h.nt]; exact hk), if_neg e] at hjt'
theorem rep_head (x : ByteArray) : Rep z (if spSet x = 0 then upd V 0 (spName z ++ x) else V) (rHead R x) := by
  have hF := first_pos h1 h2
  by_cases hx : x.size = 248
  · rw [show spSet x = 0 by unfold spSet; rw [if_neg (by omega)], show rHead R x = ⟨x, R.pages, R.taken⟩ from if_pos hx, if_pos rfl]
    have hn := spName_size z
    refine ⟨?_, ?_, ⟨fun k hk => by rw [upd_other _ (by omega)]; exact h.map.bits k hk⟩, fun k hk hkt => by rw [upd_other _ (by omega)]; exact h.page k hk hkt, h.np, h.nt⟩
    · rw [upd_same]
      show _ = x
      rw [show (256 : Nat) = 8 + 248 by rfl, ← hx, ← hn]
      exact ByteArray.extract_append_eq_right rfl rfl
    · rw [upd_same, ← hn]
      exact ByteArray.extract_append_eq_left rfl
  · rw [show spSet x = 3 by unfold spSet; rw [if_pos hx], show rHead R x = R from if_neg hx, if_neg (by omega)]; exact h
theorem rep_list (k : Nat) (hk : k ≤ spMany z) : takenTo z (V (jFirst z)) k = rList z R k := by
  unfold takenTo rList
  congr 1
  refine List.filter_congr fun j hj => ?_
  exact h.map.bits j (by have := List.mem_range.1 hj; omega)
theorem rep_none (ha : ∀ j, j < spMany z → R.taken.getD j false = true) : spNext z (V (jFirst z)) = none := h.map.full ha
theorem rep_some {k : Nat} (hk : k < spMany z) (ha : ∀ j, j < k → R.taken.getD j false = true) (hf : R.taken.getD k false = false) : spNext z (V (jFirst z)) = some k := h.map.next hk ha hf
end
/-- the first that is not taken, or none -/
theorem first_free (R : Rf) (m : Nat) : (∀ j, j < m → R.taken.getD j false = true) ∨ ∃ k, k < m ∧ (∀ j, j < k → R.taken.getD j false = true) ∧ R.taken.getD k false = false := by
  induction m with
  | zero => exact .inl fun j hj => by omega
  | succ m ih =>
    rcases ih with ih | ⟨k, hk, ha, hf⟩
    · cases hb : R.taken.getD m false with
      | true =>
        refine .inl fun j hj => ?_
        by_cases e : j = m
        · subst e; exact hb
        · exact ih j (by omega)
      | false => exact .inr ⟨m, by omega, ih, hb⟩
    · exact .inr ⟨k, by omega, ha, hf⟩
end
/-! Long -/
section
set_option linter.unusedSimpArgs false
set_option linter.unusedVariables false
open Go.RowKit Go.Maps Go.Shelf

def longB (s : ByteArray) (n : Nat) : ByteArray := if n < s.size then s.extract 0 n else s ++ zerosB (n - s.size)
theorem longB_size (s : ByteArray) (n : Nat) : (longB s n).size = n := by
  unfold longB
  by_cases h : n < s.size
  · rw [if_pos h]; simp; omega
  · rw [if_neg h, ByteArray.size_append]
    have : (zerosB (n - s.size)).size = n - s.size := zerosB_size _
    omega
set_option maxHeartbeats 1000000 in
set_option maxRecDepth 100000 in
theorem long_any (s : ByteArray) (n : Nat) (w : World) (hs : s.size ≤ 140737488355328) (hn : n ≤ 256) :
    Calls Tryz.prog 57 #[.string s, .int .i64 n] w fun e w' => e = .returned (.string (longB s n)) ∧ Below w.heap.size w w' := by
  by_cases h : n < s.size
  · have e1 : longB s n = s.extract 0 n := if_pos h
    rw [e1]
    clear e1
    go_enter Tryz.func57, Tryz.ntmps57
    go_wp2
    go_ret
    exact ⟨rfl, Below.refl _ _⟩
  · have e1 : longB s n = s ++ zerosB (n - s.size) := if_neg h
    rw [e1]
    clear e1
    have hz := zeros_any (n - s.size) w (by omega)
    rw [show (((n - s.size : Nat)) : Int) = (n : Int) - s.size by omega] at hz
    have hzs : (zerosB (n - s.size)).size = n - s.size := zerosB_size _
    generalize zerosB (n - s.size) = t at *
    go_enter Tryz.func57, Tryz.ntmps57
    go_wp2_with (go_at_call 56; refine hz.mono ?_; rintro e w1 ⟨rfl, hB⟩)
    go_ret
    exact ⟨rfl, hB⟩
/-- blocks from lo to hi that none of F's calls turns -/
structure Apart (F : Nat → Prop) (lo hi : Nat) (w : World) : Prop where
  top : hi ≤ w.heap.size
  no : ∀ b, lo ≤ b → b < hi → ¬ F b
theorem Apart.step {F : Nat → Prop} {lo hi : Nat} {w w' : World} (h : Apart F lo hi w) (hs : w.heap.size ≤ w'.heap.size) : Apart (ext F w w') lo hi w' :=
  ⟨Nat.le_trans h.top hs, fun b h1 h2 hb => hb.elim (h.no b h1 h2) (fun hb => by have := h.top; omega)⟩
theorem Apart.made {F : Nat → Prop} {lo hi : Nat} {w w' : World} (h : Apart F lo hi w) (hs : w.heap.size ≤ w'.heap.size) : Apart F lo hi w' := ⟨Nat.le_trans h.top hs, h.no⟩
/-- a chain of calls on a space, and of others that only make -/
structure Chn (w0 w W : World) (s d : Nat) (F F' : Nat → Prop) (z : Int) (V D : Int → ByteArray) (N : Int) : Prop where
  sin : SIn w0 W s d F' z V D N
  upd : Upd F w W
  sub : ∀ b, F' b → F b ∨ (w.heap.size ≤ b ∧ b < W.heap.size)
section
variable {w0 w W W' : World} {s d : Nat} {F F' : Nat → Prop} {z N N' : Int} {V D V' D' : Int → ByteArray}
theorem Chn.refl (h : SIn w0 w s d F z V D N) : Chn w0 w w s d F F z V D N := ⟨h, Upd.refl _ _, fun b hb => .inl hb⟩
theorem Chn.step (h : Chn w0 w W s d F F' z V D N) (k : SStp w0 W W' s d F' z V' D' N') : Chn w0 w W' s d F (ext F' W W') z V' D' N' := by
  have h1 := h.upd.size
  have h2 := k.upd.size
  refine ⟨k.sin, h.upd.then k.upd fun x hx hf => ?_, fun b hb => ?_⟩
  · rcases h.sub x hf with hf | hf
    · exact hf
    · omega
  · rcases hb with hb | hb
    · rcases h.sub b hb with hb | hb
      · exact .inl hb
      · exact .inr ⟨hb.1, by omega⟩
    · exact .inr ⟨by omega, hb.2⟩
theorem Chn.made (h : Chn w0 w W s d F F' z V D N) (hB : Below W.heap.size W W') : Chn w0 w W' s d F F' z V D N := by
  have h1 := h.upd.size
  have h2 := hB.size
  refine ⟨h.sin.made hB, h.upd.then (Upd.below (F := fun _ => False) hB fun x hx hle => by omega) fun x hx hf => hf.elim, fun b hb => ?_⟩
  rcases h.sub b hb with hb | hb
  · exact .inl hb
  · exact .inr ⟨hb.1, by omega⟩
theorem Chn.stp (h0 : SIn w0 w s d F z V' D' N') (h : Chn w0 w W s d F F' z V D N) : SStp w0 w W s d F z V D N := by
  have hb := h0.below.size
  have hsl := h0.slt
  refine ⟨h.sin.monoF (fun b hb => h.sub b hb) (fun b hb => ?_) (fun hx => ?_), h.upd⟩
  · rcases hb with hb | hb
    · exact h0.newF b hb
    · omega
  · rcases hx with hx | hx
    · exact h0.out hx
    · omega
end
/-- a row of integers -/
def IntRow (w : World) (lo hi : Nat) (a : Option Addr) (l : List Int) : Prop := ∀ i, i < l.length → ∃ g, a = some ⟨g, 0, none⟩ ∧ lo ≤ g ∧ g < hi ∧ g < w.heap.size ∧ w.cell? ⟨g, i, none⟩ = some (.int .i64 (l.getD i 0))
theorem IntRow.keep {w w' : World} {lo hi : Nat} {a : Option Addr} {l : List Int} {F : Nat → Prop} (h : IntRow w lo hi a l) (hu : Upd F w w') (hF : Apart F lo hi w) : IntRow w' lo hi a l := fun i hi => by
  obtain ⟨g, ha, hl, hh, hg, hc⟩ := h i hi
  exact ⟨g, ha, hl, hh, by have := hu.size; omega, (hu.cell (p := ⟨g, i, none⟩) hg (hF.no g hl hh)).trans hc⟩
theorem IntRow.made {w w' : World} {lo hi : Nat} {a : Option Addr} {l : List Int} (h : IntRow w lo hi a l) (hB : Below w.heap.size w w') : IntRow w' lo hi a l := fun i hi => by
  obtain ⟨g, ha, hl, hh, hg, hc⟩ := h i hi
  exact ⟨g, ha, hl, hh, by have := hB.size; omega, (hB.cell (p := ⟨g, i, none⟩) hg).trans hc⟩
theorem intRow_of {w : World} {base : Nat} {a : Option Addr} {cap : Nat} {l : List Int} (h : w.ownsRow base 3 1 (.slice a l.length cap) l.length (l.map encZ)) : IntRow w base w.heap.size a l := fun i hi => by
  obtain ⟨g, cap', he⟩ := row_form h (by omega)
  simp at he
  obtain ⟨rfl, rfl⟩ := he
  have hl := h.lt g rfl
  refine ⟨g, rfl, hl.1, hl.2, hl.2, ?_⟩
  rw [h.cellAt i (by omega), List.getElem?_map, List.getElem?_eq_getElem (by omega), List.getD_eq_getElem?_getD, List.getElem?_eq_getElem (by omega)]; rfl
set_option maxHeartbeats 1000000 in
set_option maxRecDepth 100000 in
theorem sameInts_any (a1 a2 : Option Addr) (c1 c2 : Nat) (l : List Int) (lo1 hi1 lo2 hi2 : Nat) (w : World) (hl : l.length ≤ 100000) (h1 : IntRow w lo1 hi1 a1 l) (h2 : IntRow w lo2 hi2 a2 l) :
    Calls Tryz.prog 54 #[.slice a1 l.length c1, .slice a2 l.length c2] w fun e w' => e = .returned (.bool true) ∧ Below w.heap.size w w' := by
  have H1 := Lib.hid h1
  have H2 := Lib.hid h2
  clear h1 h2
  generalize hm : l.length = m at *
  go_enter Tryz.func54, Tryz.ntmps54
  go_wp2
  go_loopw [13] (fun v wr => ∃ (k q : Nat), v = .int .i64 k ∧ k ≤ m ∧ wr = w.drewN q) (fun v _ => m - (intOf v).toNat)
  case atStart => exact ⟨0, 0, rfl, by omega, rfl⟩
  case round =>
    obtain ⟨k, q, rfl, hk, rfl⟩ := hrel
    by_cases hlt : k < m
    · obtain ⟨g1, rfl, _, _, hg1, e1⟩ := H1.out k (by omega)
      obtain ⟨g2, rfl, _, _, hg2, e2⟩ := H2.out k (by omega)
      generalize l.getD k 0 = v at *
      have f1 : ∀ p, (w.drewN p).cell? ⟨g1, k, none⟩ = some (.int .i64 v) := fun p => e1
      have f2 : ∀ p, (w.drewN p).cell? ⟨g2, k, none⟩ = some (.int .i64 v) := fun p => e2
      go_upto_region 6 with fail
      go_quiet (fail)
      go_wp2
      go_roundw
      case rel => exact ⟨k + 1, _, by go_num, by omega, rfl⟩
      case measure => simp [intOf]; omega
    · obtain rfl : k = m := by omega
      go_wp2
      go_ret
      exact ⟨rfl, drewN_below w q⟩
end
/-! Same -/
section
set_option linter.unusedSimpArgs false
set_option linter.unusedVariables false
open Go.RowKit Go.Maps Go.Shelf

theorem rList_get {z : Int} {R : Rf} {m i : Nat} (hi : i < (rList z R m).length) : ∃ j, j < m ∧ (rList z R m).getD i 0 = jFirst z + 1 + (j : Int) ∧ R.taken.getD j false = true := by
  have hm : (rList z R m).getD i 0 ∈ rList z R m := by
    rw [List.getD_eq_getElem?_getD, List.getElem?_eq_getElem hi]
    exact List.getElem_mem _
  obtain ⟨j, hj, he⟩ := List.mem_map.1 hm
  obtain ⟨h1, h2⟩ := List.mem_filter.1 hj
  exact ⟨j, List.mem_range.1 h1, he.symm, by simpa using h2⟩
/-- what a walk of same carries -/
structure Pk (w0 w W : World) (s d r lo hi : Nat) (F F' : Nat → Prop) (z : Int) (V D : Int → ByteArray) (R : Rf) (M : Int) (a : Option Addr) (lo2 hi2 : Nat) (l : List Int) (v2 : Value) : Prop where
  chn : Chn w0 w W s d F F' z V D M
  ref : RIn W r lo hi z R
  ap : Apart F' lo hi W
  row : IntRow W lo2 hi2 a l
  ap2 : Apart F' lo2 hi2 W
  rb : lo ≤ r ∧ r < hi
  c1 : W.cell? ⟨r, 1, none⟩ = some (.string R.top)
  c2 : W.cell? ⟨r, 2, none⟩ = some v2
section
variable {w0 w W W' : World} {s d r lo hi lo2 hi2 : Nat} {F F' : Nat → Prop} {z M M' : Int} {V D : Int → ByteArray} {R : Rf} {a : Option Addr} {l : List Int} {v2 : Value}
theorem Pk.step (h : Pk w0 w W s d r lo hi F F' z V D R M a lo2 hi2 l v2) (k : SStp w0 W W' s d F' z V D M') : Pk w0 w W' s d r lo hi F (ext F' W W') z V D R M' a lo2 hi2 l v2 :=
  ⟨h.chn.step k, h.ref.upd k.upd h.ap.no, h.ap.step k.upd.size, h.row.keep k.upd h.ap2, h.ap2.step k.upd.size, h.rb,
    (k.upd.cell (p := ⟨r, 1, none⟩) (Nat.lt_of_lt_of_le h.rb.2 h.ap.top) (h.ap.no r h.rb.1 h.rb.2)).trans h.c1, (k.upd.cell (p := ⟨r, 2, none⟩) (Nat.lt_of_lt_of_le h.rb.2 h.ap.top) (h.ap.no r h.rb.1 h.rb.2)).trans h.c2⟩
theorem Pk.made (h : Pk w0 w W s d r lo hi F F' z V D R M a lo2 hi2 l v2) (hB : Below W.heap.size W W') : Pk w0 w W' s d r lo hi F F' z V D R M a lo2 hi2 l v2 :=
  ⟨h.chn.made hB, h.ref.made hB, h.ap.made hB.size, h.row.made hB, h.ap2.made hB.size, h.rb,
    (hB.cell (p := ⟨r, 1, none⟩) (Nat.lt_of_lt_of_le h.rb.2 h.ap.top)).trans h.c1, (hB.cell (p := ⟨r, 2, none⟩) (Nat.lt_of_lt_of_le h.rb.2 h.ap.top)).trans h.c2⟩
end
set_option maxHeartbeats 1000000 in
set_option maxRecDepth 100000 in
theorem same_any {w0 w : World} {s d r lo hi : Nat} {F : Nat → Prop} {z N : Int} {V D : Int → ByteArray} {R : Rf} (h : SIn w0 w s d F z V D N) (hr : RIn w r lo hi z R) (hp : Rep z V R) (hap : Apart F lo hi w) (hFl : ∀ b, F b → b < w.heap.size) (hN : N < 1000000000000) :
    Calls Tryz.prog 21 #[.pointer (some ⟨s, 0, none⟩), .pointer (some ⟨r, 0, none⟩)] w fun e w' => e = .returned (.bool true) ∧ SStp w0 w w' s d F z V D (N + 10000) := by
  have hbd := h.bd
  obtain ⟨m1, m2, m3⟩ := spMany_bd hbd.1 hbd.2
  have H0 := Lib.hid h
  have HHD := Lib.hid (head_sp h (by omega))
  rw [hp.top] at HHD
  have HRF := Lib.hid (fun W (hB : RIn W r lo hi z R) => hB)
  have HLS : Hid (∀ W, RIn W r lo hi z R → _) := fun W hx => rlist_any (w := W) hx
  have HSE : Hid (∀ W, RIn W r lo hi z R → ∃ gp cp, W.cell? ⟨r, 1, none⟩ = some (.string R.top) ∧ W.cell? ⟨r, 2, none⟩ = some (.slice (some ⟨gp, 0, none⟩) (spMany z) cp)) := fun W hx => by
    obtain ⟨gp, gt, cp, ct, hS⟩ := hx.see
    exact ⟨gp, cp, hS.c1, hS.c2⟩
  have HTK : Hid (∀ W F' M, SIn w0 W s d F' z V D M → M < 2305843009213692000 → Calls Tryz.prog 29 #[.pointer (some ⟨s, 0, none⟩)] W fun e w' => ∃ a cap w1, e = .returned (.slice a (rList z R (spMany z)).length cap) ∧
      SStp w0 W w1 s d F' z V D (M + 2) ∧ Below w1.heap.size w1 w' ∧ IntRow w' w1.heap.size w'.heap.size a (rList z R (spMany z))) := fun W F' M hx hM => by
    have := takenl_sp hx (by omega)
    rw [rep_list hp hbd.1 hbd.2 (spMany z) (Nat.le_refl _)] at this
    exact this.mono fun e w' ⟨a, cap, w1, he, hs, hb, ho⟩ => ⟨a, cap, w1, he, hs, hb, intRow_of ho⟩
  have HFR : Hid (∀ W F' M, SIn w0 W s d F' z V D M → M < 2305843009213692000 → Calls Tryz.prog 14 #[.pointer (some ⟨s, 0, none⟩)] W fun e w' => e = .returned (.int .i64 ((spMany z : Int) - (rList z R (spMany z)).length)) ∧ SStp w0 W w' s d F' z V D (M + 4)) := fun W F' M hx hM => by
    have := free_sp hx hM
    unfold spFree at this
    rw [rep_list hp hbd.1 hbd.2 (spMany z) (Nat.le_refl _)] at this
    exact this
  have HGT : Hid (∀ W F' M i, SIn w0 W s d F' z V D M → RIn W r lo hi z R → Apart F' lo hi W → M < 2305843009213692000 → i < (rList z R (spMany z)).length → ∃ x, Calls Tryz.prog 26 #[.pointer (some ⟨s, 0, none⟩), .int .i64 ((rList z R (spMany z)).getD i 0)] W fun e w' =>
      e = .returned (.tuple #[.string x, .int .i64 0]) ∧ SStp w0 W w' s d F' z V D (M + 4) ∧
        Calls Tryz.prog 55 #[.pointer (some ⟨r, 0, none⟩), .int .i64 ((rList z R (spMany z)).getD i 0)] w' fun e w'' => e = .returned (.tuple #[.string x, .int .i64 0]) ∧ w' = w'') := fun W F' M i hx hR hA hM hi => by
    obtain ⟨j, hj, he, ht⟩ := rList_get hi
    rw [he]
    have h0 : rMay z R (jFirst z + 1 + (j : Int)) = 0 := by
      unfold rMay
      rw [if_neg (by unfold rOut; omega), show (jFirst z + 1 + (j : Int) - (jFirst z + 1)).toNat = j by omega, ht]; rfl
    refine ⟨rGet z R (jFirst z + 1 + (j : Int)), ?_⟩
    have hg := get_sp hx (jFirst z + 1 + (j : Int)) (by omega)
    rw [rep_get hp hbd.1 hbd.2, rep_taken hp hbd.1 hbd.2, h0] at hg
    refine hg.mono fun e w' ⟨he, hs⟩ => ⟨he, hs, ?_⟩
    have := rget_any (hR.upd hs.upd hA.no) (jFirst z + 1 + (j : Int))
    rw [h0] at this
    exact this
  have HL : Hid ((rList z R (spMany z)).length ≤ spMany z) := rList_length z R (spMany z)
  have HR := Lib.hid hr
  have HA := Lib.hid hap
  have HFl := Lib.hid hFl
  clear h hr hp hap hFl m3 HRF
  have HRB : Hid (lo ≤ r ∧ r < hi) := by obtain ⟨gp, gt, cp, ct, hS⟩ := HR.out.see; exact ⟨hS.sr.1, hS.sr.2.1⟩
  obtain ⟨tp, HTP⟩ : ∃ tp, Hid (R.top = tp) := ⟨_, Lib.hid rfl⟩
  rw [HTP.out] at HHD
  generalize rList z R (spMany z) = l at *
  generalize spMany z = m at *
  go_enter Tryz.func21, Tryz.ntmps21
  go_wp2_with fail
  refine HHD.out.mono ?_
  rintro e w1 ⟨rfl, hS1⟩
  have HC1 := Lib.hid ((Chn.refl H0.out).step hS1)
  have HR1 := Lib.hid (HR.out.upd hS1.upd HA.out.no)
  have HA1 := Lib.hid (HA.out.step hS1.upd.size)
  have HL1 := Lib.hid (HLS.out w1 HR1.out)
  clear hS1 HHD
  go_wp2_with fail
  refine HL1.out.mono ?_
  rintro e w2 ⟨a2, cap2, rfl, hB2, ho2⟩
  obtain ⟨v2, gp, cp, hv2, HP2⟩ : ∃ v2 gp cp, v2 = Value.slice (some ⟨gp, 0, none⟩) m cp ∧ Hid (Pk w0 w w2 s d r lo hi F (ext F w w1) z V D R (N + 2) a2 w1.heap.size w2.heap.size l v2) := by
    obtain ⟨gp, cp, c1, c2⟩ := HSE.out _ (HR1.out.made hB2)
    exact ⟨_, gp, cp, rfl, HC1.out.made hB2, HR1.out.made hB2, HA1.out.made hB2.size, intRow_of ho2, ⟨Nat.le_refl _, fun b h1 _ hb => hb.elim (fun hb => by have := HFl.out b hb; have := HC1.out.upd.size; omega) (fun hb => by omega)⟩, HRB.out, c1, c2⟩
  generalize ext F w w1 = F2 at *
  generalize w1.heap.size = q1 at *
  generalize w2.heap.size = q2 at *
  clear hB2 ho2 HL1 HLS HC1 HR1 HA1 HFl HA HR HSE
  subst hv2
  have HPD := Lib.hid (HP2.out.made ((Below.refl _ w2).drew))
  have c1 : w2.drew.cell? ⟨r, 1, none⟩ = some (.string tp) := by rw [← HTP.out]; exact HPD.out.c1
  have c2 := HPD.out.c2
  have HT2 := Lib.hid (HTK.out w2.drew F2 _ HPD.out.chn.sin (by omega))
  have HNN := Lib.hid hN
  have HLL : Hid (l.length ≤ 100000 ∧ l.length ≤ m) := ⟨by have := HL.out; omega, HL.out⟩
  have hwr : IntKind.i64.wrap ((m : Int) - (l.length : Int)) = (m : Int) - (l.length : Int) := IntWalk.i64_in _ (by have := HL.out; omega)
  have hL := HL.out
  have H00 := Lib.hid H0.out
  clear HP2 hN hbd HTK H0
  go_upto_region 3 with fail
  go_region_held3 (fun w' => w'.cell? ⟨r, 1, none⟩ = some (.string tp) ∧ w'.cell? ⟨r, 2, none⟩ = some (.slice (some ⟨gp, 0, none⟩) m cp)) (go_keep)
   (first
    | (go_at_call 29; refine HT2.out.mono ?_; rintro e w3 ⟨a3, cap3, w3', rfl, hS3, hB3, hJ3⟩
       have HP3 := Lib.hid ((HPD.out.step hS3).made hB3)
       have HSI := Lib.hid (sameInts_any a3 a2 cap3 cap2 l _ _ _ _ w3 HLL.out.1 hJ3 HP3.out.row)
       have d1 : w3.cell? ⟨r, 1, none⟩ = some (.string tp) := by rw [← HTP.out]; exact HP3.out.c1
       have d2 := HP3.out.c2
       clear hS3 hB3 hJ3 HT2)
    | (go_at_call 54; refine HSI.out.mono ?_; rintro e w4 ⟨rfl, hB4⟩
       have HP4 := Lib.hid (HP3.out.made hB4)
       have HF4 := Lib.hid (HFR.out w4 _ _ HP4.out.chn.sin (by have := HNN.out; omega))
       have e1 : w4.cell? ⟨r, 1, none⟩ = some (.string tp) := by rw [← HTP.out]; exact HP4.out.c1
       have e2 := HP4.out.c2
       clear hB4 HSI)
    | (go_at_call 14; refine HF4.out.mono ?_; rintro e w5 ⟨rfl, hS5⟩
       have HP5 := Lib.hid (HP4.out.step hS5)
       have f1 : w5.cell? ⟨r, 1, none⟩ = some (.string tp) := by rw [← HTP.out]; exact HP5.out.c1
       have f2 := HP5.out.c2
       clear hS5 HF4))
  clear c1 c2 d1 d2 e1 e2 f1 f2 HPD HP3 HP4 hwr
  go_wp2
  go_loopw [52] (fun v wr => ∃ (k : Nat) (F' : Nat → Prop), v = .int .i64 k ∧ k ≤ l.length ∧ Hid (Pk w0 w wr s d r lo hi F F' z V D R (N + 100 + 4 * k) a2 q1 q2 l (.slice (some ⟨gp, 0, none⟩) m cp))) (fun v _ => l.length - (intOf v).toNat)
  case atStart => exact ⟨0, _, rfl, by omega, Lib.hid ⟨⟨HP5.out.chn.sin.mono (by omega), HP5.out.chn.upd, HP5.out.chn.sub⟩, HP5.out.ref, HP5.out.ap, HP5.out.row, HP5.out.ap2, HP5.out.rb, HP5.out.c1, HP5.out.c2⟩⟩
  case round =>
    obtain ⟨k, F', rfl, hk, HPK⟩ := hrel
    clear HP5
    by_cases hlt : k < l.length
    · obtain ⟨x, hgx⟩ := HGT.out wr F' _ k HPK.out.chn.sin HPK.out.ref HPK.out.ap (by have := HNN.out; have := HLL.out; omega) hlt
      have HGX := Lib.hid hgx
      obtain ⟨g, rfl, _, _, hgl, ec⟩ := HPK.out.row k hlt
      have HRK : Hid (∀ w', Pk w0 w w' s d r lo hi F (ext F' wr w') z V D R (N + 100 + 4 * k + 4) (some ⟨g, 0, none⟩) q1 q2 l (.slice (some ⟨gp, 0, none⟩) m cp) → w'.cell? ⟨g, k, none⟩ = some (.int .i64 (l.getD k 0))) := fun w' hp => by
        obtain ⟨g', he, _, _, _, hc⟩ := hp.row k hlt
        simp at he
        subst he
        exact hc
      clear hgx
      generalize l.getD k 0 = y at *
      go_wp2_with fail
      refine HGX.out.mono ?_
      rintro e w6 ⟨rfl, hS6, hG6⟩
      have HP6 := Lib.hid (HPK.out.step hS6)
      have ec6 := HRK.out _ HP6.out
      have HG6 := Lib.hid hG6
      clear hS6 hG6 HGX HPK HRK ec
      go_wp2_with fail
      refine HG6.out.mono ?_
      rintro e w7 ⟨rfl, rfl⟩
      clear HG6
      go_wp2
      go_roundw
      case rel => exact ⟨k + 1, _, by go_num, by omega, Lib.hid ⟨⟨HP6.out.chn.sin.mono (by push_cast; omega), HP6.out.chn.upd, HP6.out.chn.sub⟩, HP6.out.ref, HP6.out.ap, HP6.out.row, HP6.out.ap2, HP6.out.rb, HP6.out.c1, HP6.out.c2⟩⟩
      case measure => simp [intOf]; omega
    · obtain rfl : k = l.length := by omega
      go_wp2
      go_ret
      exact ⟨rfl, (Chn.stp H00.out HPK.out.chn).mono (by have := HLL.out; omega)⟩
end
end Go.Proofs.YtdoankamaobkoaaGreatDoor
