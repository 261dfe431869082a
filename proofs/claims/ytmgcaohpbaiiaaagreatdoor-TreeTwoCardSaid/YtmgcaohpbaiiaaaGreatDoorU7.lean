/- The tree's functions at nil · tree.New, At, Put; take at a leaf, Delete without a root that has an only child · Tree.take at a leaf; Tree.Delete where the root is a leaf · Tree.Pages where the root is a leaf. -/
import Derived.Test.YtmgcaohpbaiiaaaGreatDoorU1
import Derived.Test.YtmgcaohpbaiiaaaGreatDoorTPut
namespace Go.Proofs.YtmgcaohpbaiiaaaGreatDoor
/-! TNilA -/
section
set_option linter.unusedSimpArgs false
set_option linter.unusedVariables false
open Go.RowKit Go.Maps Go.Shelf

theorem at_nil (i : Int) (w : World) : Calls Tryz.prog 11 #[.pointer none, .int .i64 i] w fun e w' => e = .returned (.pointer none) ∧ w = w' := by
  go_enter Tryz.func11, Tryz.ntmps11
  go_wp2
  go_ret
  exact ⟨rfl, rfl⟩
theorem new_nil (w : World) : Calls Tryz.prog 10 #[.pointer none] w fun e w' => e = .returned (.tuple #[.int .i64 0, .int .i64 18]) ∧ Below w.heap.size w w' := by
  have hB : Below w.heap.size w (w.alloc (.cells #[.int .i64 18] 26)) := (Below.refl _ w).alloc (Nat.le_refl _) _
  go_enter_defers Tryz.func10, Tryz.ntmps10
  go_wp2
  refine leaves_cons (f := 27) (args := #[.pointer (some ⟨w.heap.size, 0, none⟩)]) (by simp) (by simp [go_sem]) ?_
  refine (settle_idle ⟨w.heap.size, 0, none⟩ _).mono ?_
  rintro e u' w'' ⟨rfl, rfl, rfl⟩
  simp [Leaves, settle, results, Tryz.results10, go_sem]
  exact hB
theorem put_nil (key value : ByteArray) (w : World) : Calls Tryz.prog 18 #[.pointer none, .string key, .string value] w fun e w' => e = .returned (.int .i64 18) ∧ Below w.heap.size w w' := by
  have hB : Below w.heap.size w (w.alloc (.cells #[.int .i64 18] 26)) := (Below.refl _ w).alloc (Nat.le_refl _) _
  go_enter_defers Tryz.func18, Tryz.ntmps18
  go_wp2
  simp [bodyPostD, Leaves, settle, results, Tryz.results18, go_sem]
  exact hB
theorem get_nil (key : ByteArray) (w : World) : Calls Tryz.prog 15 #[.pointer none, .string key] w fun e w' => e = .returned (.tuple #[.string ⟨#[]⟩, .bool false, .int .i64 18]) ∧ Below w.heap.size w w' := by
  have hB : Below w.heap.size w (w.alloc (.cells #[.int .i64 18] 26)) := (Below.refl _ w).alloc (Nat.le_refl _) _
  go_enter_defers Tryz.func15, Tryz.ntmps15
  go_wp2
  simp [bodyPostD, Leaves, settle, results, Tryz.results15, go_sem]
  exact hB
theorem del_nil (key : ByteArray) (w : World) : Calls Tryz.prog 16 #[.pointer none, .string key] w fun e w' => e = .returned (.tuple #[.bool false, .int .i64 18]) ∧ Below w.heap.size w w' := by
  have hB : Below w.heap.size w (w.alloc (.cells #[.int .i64 18] 26)) := (Below.refl _ w).alloc (Nat.le_refl _) _
  go_enter_defers Tryz.func16, Tryz.ntmps16
  go_wp2
  simp [bodyPostD, Leaves, settle, results, Tryz.results16, go_sem]
  exact hB
set_option maxRecDepth 100000 in
theorem list_nil (key : ByteArray) (i : Int) (w : World) : Calls Tryz.prog 13 #[.pointer none, .string key, .int .i64 i] w fun e w' => e = .returned (.tuple #[.slice none 0 0, .int .i64 18]) ∧ Below w.heap.size w w' := by
  go_enter_defers Tryz.func13, Tryz.ntmps13
  go_wp2
  simp [bodyPostD, Leaves, settle, results, Tryz.results13, go_sem]
  exact (((Below.refl w.heap.size w).alloc (Nat.le_refl _) _).alloc (by simp) _).alloc (by simp; omega) _
theorem pages_nil (w : World) : Calls Tryz.prog 17 #[.pointer none] w fun e w' => e = .returned (.tuple #[.slice none 0 0, .int .i64 18]) ∧ Below w.heap.size w w' := by
  go_enter_defers Tryz.func17, Tryz.ntmps17
  go_wp2
  simp [bodyPostD, Leaves, settle, results, Tryz.results17, go_sem]
  exact ((Below.refl w.heap.size w).alloc (Nat.le_refl _) _).alloc (by simp) _
end
/-! TApi -/
section
set_option linter.unusedSimpArgs false
set_option linter.unusedVariables false
open Go.RowKit Go.Maps Go.Shelf

section
variable {w0 w W : World} {s dk t root : Nat} {F : Nat → Prop} {n N : Int} {V D : Int → ByteArray} {S S1 : TS}
/-- a tree is made: its page -/
def newM (f m : Nat) (S : TS) : Option (TS × Nat) := (allocM f m S).bind fun p => (storeM f m p.2 p.1 1 []).map fun S2 => (S2, p.1)
set_option maxHeartbeats 2000000 in
set_option maxRecDepth 100000 in
theorem tnew_any (h : SIn w0 w s dk F n V D N) (hlt : ∀ b, F b → b < w.heap.size) (hS : Shows n V S) (at_ : Nat) (hp : newM (jFirst n).toNat (spMany n) S = some (S1, at_)) (hN : N < 1000000000000) :
    Calls Tryz.prog 10 #[.pointer (some ⟨s, 0, none⟩)] w fun e w' => ∃ F' V', e = .returned (.tuple #[.int .i64 at_, .int .i64 0]) ∧ TSt w0 w w' s dk F F' n V' D (N + 8) ∧ Shows n V' S1 := by
  unfold newM at hp
  simp only [Option.map_eq_some_iff, Option.bind_eq_some_iff] at hp
  obtain ⟨⟨a, S0⟩, ha, S2, hs, e9⟩ := hp
  simp only [Prod.mk.injEq] at e9
  obtain ⟨rfl, rfl⟩ := e9
  simp only at hs
  have hsl := h.slt
  have hb0 := h.below.size
  -- the error's cell, then the tree's block
  have HT : Hid (∀ Wt, Wt = (w.alloc (.cells #[.int .i64 0] 26)).alloc (.cells #[.pointer (some ⟨s, 0, none⟩), .int .i64 0] 70) →
      TIn w0 Wt s dk F n V D N (w.heap.size + 1) 0 S ∧ Below w.heap.size w Wt ∧ Wt.heap[w.heap.size]? = some (.cells #[.int .i64 0] 26 (0, 0)) ∧ Wt.heap.size = w.heap.size + 2) := fun Wt e => by
    subst e
    have hB : Below w.heap.size w ((w.alloc (.cells #[.int .i64 0] 26)).alloc (.cells #[.pointer (some ⟨s, 0, none⟩), .int .i64 0] 70)) := ((Below.refl _ w).alloc (Nat.le_refl _) _).alloc (by simp) _
    have hobj := heap_alloc_new' (w.alloc (.cells #[.int .i64 0] 26)) (.cells #[.pointer (some ⟨s, 0, none⟩), .int .i64 0] 70 (0, 0))
    rw [World.size_alloc] at hobj
    refine ⟨⟨h.made hB, fun b hb => by have := hlt b hb; simp; omega, ⟨hobj, fun hf => by have := hlt _ hf; omega⟩, hS⟩, hB, (Below.heap_alloc _ _ _ (by simp)).trans (heap_alloc_new' w _), by simp⟩
  have HM : Hid (∀ Wt, TIn w0 Wt s dk F n V D N (w.heap.size + 1) 0 S → Calls Tryz.prog 28 #[.pointer (some ⟨w.heap.size + 1, 0, none⟩)] Wt fun e w' => ∃ F1 V1, e = .returned (.int .i64 a) ∧ TRun w0 Wt w' s dk F F1 n V1 D (N + 4) (w.heap.size + 1) 0 S0) := fun Wt ht => (alloc_run ht.run a ha (by omega)).mono fun e w' ⟨F1, V1, he, hr, _⟩ => ⟨F1, V1, he, hr⟩
  have HM2 : Hid (∀ Wt w1 F1 V1, TRun w0 Wt w1 s dk F F1 n V1 D (N + 4) (w.heap.size + 1) 0 S0 → Calls Tryz.prog 29 #[.pointer (some ⟨w.heap.size + 1, 0, none⟩), .int .i64 a, .int .i64 1, .slice none 0 0] w1 fun e w' => ∃ F2 V2, e = .returned (.tuple #[]) ∧ TRun w0 Wt w' s dk F F2 n V2 D (N + 8) (w.heap.size + 1) 0 S2) := fun Wt w1 F1 V1 hr => (store_run hr a 1 [] none 0 (ERow.nil _ _) hs (by omega)).mono fun e w' ⟨F2, V2, he, hr2, _⟩ => ⟨F2, V2, he, by have := hr2.mono (show N + 4 + 4 ≤ N + 8 by omega); exact this⟩
  have HEND : Hid (∀ Wt w3 F2 V2, Wt = (w.alloc (.cells #[.int .i64 0] 26)).alloc (.cells #[.pointer (some ⟨s, 0, none⟩), .int .i64 0] 70) → TRun w0 Wt w3 s dk F F2 n V2 D (N + 8) (w.heap.size + 1) 0 S2 →
      w3.cell? ⟨w.heap.size, 0, none⟩ = some (.int .i64 0) ∧ w3.frozen? ⟨w.heap.size, 0, none⟩ = false ∧ TSt w0 w (w3.setCell ⟨w.heap.size, 0, none⟩ (.int .i64 0)) s dk F F2 n V2 D (N + 8) ∧ Shows n V2 S2 ∧ (w3.setCell ⟨w.heap.size, 0, none⟩ (.int .i64 0)).cell? ⟨w.heap.size, 0, none⟩ = some (.int .i64 0)) := fun Wt w3 F2 V2 e hr => by
    obtain ⟨ht, hB, hobj, hsz⟩ := HT.out Wt e
    have hnf : ¬ F w.heap.size := fun hf => by have := hlt _ hf; omega
    have hobj3 := (hr.tst.upd.block w.heap.size (by omega) hnf).trans hobj
    have hnf2 : ¬ F2 w.heap.size := fun hf => by
      rcases hr.tst.new _ hf with hf | hf
      · exact hnf hf
      · omega
    have h1 : TSt w0 w w3 s dk F F2 n V2 D (N + 8) := ⟨hr.tst.sin, ⟨hr.tst.upd.os.trans hB.os, hr.tst.upd.tape.trans hB.tape, hr.tst.upd.output.trans hB.output, by have := hr.tst.upd.size; omega, fun b hb hnb => (hr.tst.upd.block b (by omega) hnb).trans (hB.block b hb)⟩, fun b hb => by
      rcases hr.tst.new b hb with hf | hf
      · exact .inl hf
      · exact .inr (by omega), hr.tst.lt⟩
    have h2 := h1.cell hb0 (Nat.le_refl _) hnf2 (by omega) 0 (.int .i64 0)
    exact ⟨by rw [cell_of hobj3]; rfl, frozen_of hobj3 0, h2, hr.tin.shows, by rw [cell_of (heap_setCell_same hobj3 0 _)]; rfl⟩
  clear h hlt hS ha hs
  go_enter_defers Tryz.func10, Tryz.ntmps10
  go_wp2_with fail
  obtain ⟨Wt, hWt⟩ : ∃ Wt, Wt = (w.alloc (.cells #[.int .i64 0] 26)).alloc (.cells #[.pointer (some ⟨s, 0, none⟩), .int .i64 0] 70) := ⟨_, rfl⟩
  have ht := (HT.out Wt hWt).1
  rw [← hWt]
  have HWT := Lib.hid hWt
  have hm := HM.out Wt ht
  clear hWt HT HM ht
  refine hm.mono ?_
  rintro e w1 ⟨F1, V1, rfl, hr1⟩
  have hm2 := HM2.out Wt w1 F1 V1 hr1
  clear hm HM2 hr1
  go_wp2_with fail
  refine hm2.mono ?_
  rintro e w3 ⟨F2, V2, rfl, hr3⟩
  obtain ⟨c3, f3, h4, h5, c4⟩ := HEND.out Wt w3 F2 V2 HWT.out hr3
  have H4 := Lib.hid h4
  clear hm2 HEND hr3 h4
  go_wp2
  generalize w3.setCell ⟨w.heap.size, 0, none⟩ (.int .i64 0) = w4 at *
  refine leaves_cons (f := 27) (args := #[.pointer (some ⟨w.heap.size, 0, none⟩)]) (by simp) (by simp [go_sem]) ?_
  refine (settle_idle ⟨w.heap.size, 0, none⟩ _).mono ?_
  rintro e u' w'' ⟨rfl, rfl, rfl⟩
  have h6 := H4.out
  clear H4 HWT
  simp [Leaves, settle, results, Tryz.results10, go_sem, c4]
  exact ⟨F2, V2, h6, h5⟩
theorem at_any (r : Nat) (w : World) : Calls Tryz.prog 11 #[.pointer (some ⟨s, 0, none⟩), .int .i64 r] w fun e w' => e = .returned (.pointer (some ⟨w.heap.size, 0, none⟩)) ∧ w' = w.alloc (.cells #[.pointer (some ⟨s, 0, none⟩), .int .i64 r] 70) := by
  go_enter Tryz.func11, Tryz.ntmps11
  go_wp2
  go_ret
  exact ⟨rfl, rfl⟩
theorem TIn.at_new (h : SIn w0 w s dk F n V D N) (hlt : ∀ b, F b → b < w.heap.size) (hS : Shows n V S) (r : Nat) : TIn w0 (w.alloc (.cells #[.pointer (some ⟨s, 0, none⟩), .int .i64 r] 70)) s dk F n V D N w.heap.size r S :=
  ⟨h.alloc _, fun b hb => by have := hlt b hb; simp; omega, ⟨heap_alloc_new' w _, fun hf => by have := hlt _ hf; omega⟩, hS⟩
theorem TRun.drop {w3 W1 : World} {F2 : Nat → Prop} {V2 : Int → ByteArray} (k : TRun w0 W1 w3 s dk F F2 n V2 D N t root S) (hB : Below w.heap.size w W1) : TRun w0 w w3 s dk F F2 n V2 D N t root S :=
  ⟨k.tin, k.tst.sin, ⟨k.tst.upd.os.trans hB.os, k.tst.upd.tape.trans hB.tape, k.tst.upd.output.trans hB.output, by have := k.tst.upd.size; have := hB.size; omega, fun b hb hnb => (k.tst.upd.block b (by have := hB.size; omega) hnb).trans (hB.block b hb)⟩, fun b hb => by
    rcases k.tst.new b hb with hf | hf
    · exact .inl hf
    · exact .inr (by have := hB.size; omega), k.tst.lt⟩
/-- a block that is none of the space's stays -/
theorem TRun.stays {w3 W1 : World} {F2 : Nat → Prop} {V2 : Int → ByteArray} (k : TRun w0 W1 w3 s dk F F2 n V2 D N t root S) {b : Nat} {o : Obj} (ho : W1.heap[b]? = some o) (hf : ¬ F b) : w3.heap[b]? = some o ∧ ¬ F2 b :=
  ⟨(k.tst.upd.block b (lt_of ho) hf).trans ho, fun hb => by
    rcases k.tst.new b hb with h | h
    · exact hf h
    · have := lt_of ho; omega⟩
set_option maxHeartbeats 2000000 in
set_option maxRecDepth 100000 in
theorem tput_api (h : TIn w0 w s dk F n V D N t root S) (key value : ByteArray) (hk : key.size ≤ 32) (hv : value.size ≤ 64) (hk0 : key.toList.isEmpty = false) (ps : List Ent) (hp : putM (jFirst n).toNat (spMany n) root key value 66 S root = some (S1, ps)) (hN : N < 100000000000) :
    Calls Tryz.prog 18 #[.pointer (some ⟨t, 0, none⟩), .string key, .string value] w fun e w' => ∃ F' V', e = .returned (.int .i64 0) ∧ TRun w0 w w' s dk F F' n V' D (N + 6600) t root S1 := by
  have hb0 := h.sin.below.size
  have hsl := h.sin.slt
  have htl := lt_of h.at_.obj
  have hnf : ¬ F w.heap.size := fun hf => by have := h.lt _ hf; omega
  have hB1 : Below w.heap.size w (w.alloc (.cells #[.int .i64 0] 26)) := (Below.refl _ w).alloc (Nat.le_refl _) _
  have h1 := h.made hB1
  obtain ⟨c0, c1⟩ := h1.cell
  have hP := tput_any key value hk hv D 66 _ F V N S S1 root ps h1 hp (by omega) (by omega)
  have HE : Hid (∀ w3 F3 V3, TRun w0 (w.alloc (.cells #[.int .i64 0] 26)) w3 s dk F F3 n V3 D (N + 100 * ((66 : Nat) : Int)) t root S1 → w3.cell? ⟨w.heap.size, 0, none⟩ = some (.int .i64 0) ∧ w3.frozen? ⟨w.heap.size, 0, none⟩ = false ∧ TRun w0 w (w3.setCell ⟨w.heap.size, 0, none⟩ (.int .i64 0)) s dk F F3 n V3 D (N + 6600) t root S1 ∧ (w3.setCell ⟨w.heap.size, 0, none⟩ (.int .i64 0)).cell? ⟨w.heap.size, 0, none⟩ = some (.int .i64 0)) := fun w3 F3 V3 hr => by
    obtain ⟨b1, b2⟩ := hr.stays (heap_alloc_new' w _) hnf
    have h3 := (hr.drop hB1).cell hb0 (Nat.le_refl _) b2 (by omega) (by omega) 0 (.int .i64 0)
    exact ⟨by rw [cell_of b1]; rfl, frozen_of b1 0, h3, by rw [cell_of (heap_setCell_same b1 0 _)]; rfl⟩
  clear h h1 hB1 hp
  have e1 : ¬ ((32 : Int) < (key.size : Int)) := by omega
  have e2 : ¬ ((64 : Int) < (value.size : Int)) := by omega
  go_enter_defers Tryz.func18, Tryz.ntmps18
  go_wp2_with fail
  refine hP.mono ?_
  rintro e w3 ⟨F3, V3, vb, vc, rfl, hr3, -⟩
  obtain ⟨c3, f3, h4, c4⟩ := HE.out w3 F3 V3 hr3
  have H4 := Lib.hid h4
  clear hP HE hr3 h4
  go_wp2
  generalize w3.setCell ⟨w.heap.size, 0, none⟩ (.int .i64 0) = w4 at *
  refine leaves_cons (f := 27) (args := #[.pointer (some ⟨w.heap.size, 0, none⟩)]) (by simp) (by simp [go_sem]) ?_
  refine (settle_idle ⟨w.heap.size, 0, none⟩ _).mono ?_
  rintro e u' w'' ⟨rfl, rfl, rfl⟩
  have h6 := H4.out
  clear H4
  simp [Leaves, settle, results, Tryz.results18, go_sem, c4]
  exact ⟨F3, V3, h6⟩
end
end
/-! TTake -/
section
set_option linter.unusedSimpArgs false
set_option linter.unusedVariables false
open Go.RowKit Go.Maps Go.Shelf

section
variable {w0 w W : World} {s dk t root : Nat} {F : Nat → Prop} {n N : Int} {V D : Int → ByteArray} {S S1 : TS}
set_option maxHeartbeats 2000000 in
set_option maxRecDepth 100000 in
theorem ttake_leaf (h : TIn w0 w s dk F n V D N t root S) (key : ByteArray) (at_ : Nat) (l : List Ent) (hld : loadM S at_ = some (1, l)) (hh : lHas l key = true) (hs : storeM (jFirst n).toNat (spMany n) S at_ 1 (lTake l key) = some S1) (deep : Int) (hN : N < 1000000000000) :
    Calls Tryz.prog 43 #[.pointer (some ⟨t, 0, none⟩), .int .i64 at_, .int .i64 deep, .string key] w fun e w' => ∃ F' V', e = .returned (.tuple #[.int .i64 (lTake l key).length, .bool true]) ∧ TRun w0 w w' s dk F F' n V' D (N + 8) t root S1 := by
  obtain ⟨hfine, hok⟩ := loadM_ok h.shows hld
  have hL := load_run h.run at_ 1 l hld (by omega)
  have hlen := hfine.len
  have hasc := hfine.asc
  have HTK : Hid (∀ w1 F1 v, TRun w0 w w1 s dk F F1 n V D (N + 4) t root S → Row w1 F1 w.heap.size v l → Calls Tryz.prog 78 #[v, .string key] w1 fun e w' => ∃ ao c, e = .returned (.tuple #[.slice ao (lTake l key).length c, .bool true]) ∧
      Calls Tryz.prog 29 #[.pointer (some ⟨t, 0, none⟩), .int .i64 at_, .int .i64 1, .slice ao (lTake l key).length c] w' fun e w2 => ∃ F2 V2, e = .returned (.tuple #[]) ∧ TRun w0 w w2 s dk F F2 n V2 D (N + 8) t root S1) := fun w1 F1 v hr hrow => by
    obtain ⟨ao, c, rfl, er, hat, hnil, -⟩ := hrow.parts
    have := ltake_any w1 ao c l key er hat hnil hasc (by omega)
    rw [hh] at this
    refine this.mono ?_
    rintro e w' ⟨v2, he, ho, hB⟩
    have row2 : Row w' F1 w.heap.size v2 (lTake l key) := Row.new hr ho
    obtain ⟨a2, c2, rfl, er2, -⟩ := row2.parts
    refine ⟨a2, c2, he, (store_run (hr.made hB) at_ 1 (lTake l key) a2 c2 er2 hs (by omega)).mono ?_⟩
    rintro e w2 ⟨F2, V2, he2, hr2, -⟩
    exact ⟨F2, V2, he2, by have := hr2.mono (show N + 4 + 4 ≤ N + 8 by omega); exact this⟩
  clear hfine hok hasc hs hh hld h
  generalize (lTake l key).length = m at *
  go_enter Tryz.func43, Tryz.ntmps43
  go_wp2_with fail
  refine hL.mono ?_
  rintro e w1 ⟨F1, v, rfl, hR1, hrow1, -⟩
  have htk := HTK.out w1 F1 v hR1 hrow1
  clear hL HTK hR1 hrow1
  go_wp2_with fail
  refine htk.mono ?_
  rintro e w2 ⟨ao, c, rfl, hst⟩
  clear htk
  go_wp2_with fail
  refine hst.mono ?_
  rintro e w3 ⟨F2, V2, rfl, hR3⟩
  clear hst
  go_wp2
  go_ret2
  exact ⟨F2, V2, rfl, hR3⟩
set_option maxHeartbeats 2000000 in
set_option maxRecDepth 100000 in
theorem tdel_leaf (h : TIn w0 w s dk F n V D N t root S) (key : ByteArray) (l l' : List Ent) (hld : loadM S root = some (1, l)) (hh : lHas l key = true) (hs : storeM (jFirst n).toNat (spMany n) S root 1 (lTake l key) = some S1) (hld2 : loadM S1 root = some (1, l')) (hN : N < 1000000000) :
    Calls Tryz.prog 16 #[.pointer (some ⟨t, 0, none⟩), .string key] w fun e w' => ∃ F' V', e = .returned (.tuple #[.bool true, .int .i64 0]) ∧ TRun w0 w w' s dk F F' n V' D (N + 12) t root S1 := by
  have hb0 := h.sin.below.size
  have hsl := h.sin.slt
  have htl := lt_of h.at_.obj
  have hnf : ¬ F w.heap.size := fun hf => by have := h.lt _ hf; omega
  have hB1 : Below w.heap.size w (w.alloc (.cells #[.int .i64 0] 26)) := (Below.refl _ w).alloc (Nat.le_refl _) _
  have h1 := h.made hB1
  obtain ⟨c0, c1⟩ := h1.cell
  have hT := ttake_leaf h1 key root l hld hh hs 0 (by omega)
  have HLD : Hid (∀ w3 F3 V3, TRun w0 (w.alloc (.cells #[.int .i64 0] 26)) w3 s dk F F3 n V3 D (N + 8) t root S1 → w3.cell? ⟨t, 1, none⟩ = some (.int .i64 root) ∧ Calls Tryz.prog 39 #[.pointer (some ⟨t, 0, none⟩), .int .i64 root] w3 fun e w' => ∃ F1 v, e = .returned (.tuple #[.int .i64 1, v]) ∧ TRun w0 (w.alloc (.cells #[.int .i64 0] 26)) w' s dk F F1 n V3 D (N + 12) t root S1) := fun w3 F3 V3 hr => ⟨hr.tin.cell.2, (load_run hr root 1 l' hld2 (by omega)).mono fun e w' ⟨F1, v, he, hr2, _⟩ => ⟨F1, v, he, by have := hr2.mono (show N + 8 + 4 ≤ N + 12 by omega); exact this⟩⟩
  have HE : Hid (∀ w3 F3 V3, TRun w0 (w.alloc (.cells #[.int .i64 0] 26)) w3 s dk F F3 n V3 D (N + 12) t root S1 → w3.cell? ⟨w.heap.size, 0, none⟩ = some (.int .i64 0) ∧ w3.frozen? ⟨w.heap.size, 0, none⟩ = false ∧ TRun w0 w (w3.setCell ⟨w.heap.size, 0, none⟩ (.int .i64 0)) s dk F F3 n V3 D (N + 12) t root S1 ∧ (w3.setCell ⟨w.heap.size, 0, none⟩ (.int .i64 0)).cell? ⟨w.heap.size, 0, none⟩ = some (.int .i64 0)) := fun w3 F3 V3 hr => by
    obtain ⟨b1, b2⟩ := hr.stays (heap_alloc_new' w _) hnf
    have h3 := (hr.drop hB1).cell hb0 (Nat.le_refl _) b2 (by omega) (by omega) 0 (.int .i64 0)
    exact ⟨by rw [cell_of b1]; rfl, frozen_of b1 0, h3, by rw [cell_of (heap_setCell_same b1 0 _)]; rfl⟩
  clear h h1 hB1 hld hh hs hld2
  generalize (lTake l key).length = m at *
  go_enter_defers Tryz.func16, Tryz.ntmps16
  go_wp2_with fail
  refine hT.mono ?_
  rintro e w3 ⟨F3, V3, rfl, hr3⟩
  obtain ⟨t3, hl3⟩ := HLD.out w3 F3 V3 hr3
  clear hT HLD hr3
  go_wp2_with fail
  go_loopw [8] (fun v wr => v = .int .i64 0 ∧ wr = w3) (fun _ _ => 0)
  case atStart => exact ⟨rfl, rfl⟩
  case round =>
    obtain ⟨rfl, rfl⟩ := hrel
    go_wp2_with fail
    refine hl3.mono ?_
    rintro e w5 ⟨F5, v5, rfl, hr5⟩
    obtain ⟨c5, f5, h6, c6⟩ := HE.out w5 F5 V3 hr5
    have H6 := Lib.hid h6
    clear hl3 HE hr5 h6
    go_wp2
    generalize w5.setCell ⟨w.heap.size, 0, none⟩ (.int .i64 0) = w6 at *
    refine leaves_cons (f := 27) (args := #[.pointer (some ⟨w.heap.size, 0, none⟩)]) (by simp) (by simp [go_sem]) ?_
    refine (settle_idle ⟨w.heap.size, 0, none⟩ _).mono ?_
    rintro e u' w'' ⟨rfl, rfl, rfl⟩
    have h7 := H6.out
    clear H6
    simp [Leaves, settle, results, Tryz.results16, go_sem, c6]
    exact ⟨F5, V3, h7⟩
end
end
/-! TPages -/
section
set_option linter.unusedSimpArgs false
set_option linter.unusedVariables false
open Go.RowKit Go.Maps Go.Shelf

theorem pages3_any (x y : ByteArray) (w : World) : Calls Tryz.prog 49 #[.agg #[.string x, .string y]] w fun e w' => e = .returned (.bool true) ∧ Below w.heap.size w w' := by
  have hB : Below w.heap.size w (w.alloc (.cells #[.string x, .string y] 59)) := (Below.refl _ w).alloc (Nat.le_refl _) _
  go_enter Tryz.func49, Tryz.ntmps49
  go_wp2
  go_ret
  exact ⟨rfl, hB⟩
set_option maxHeartbeats 1000000 in
theorem pages2_nil (ob : Nat) (i : Int) (W : World) (hb : W.heap[ob]? = some (.cells #[.slice none 0 0] 44 (0, 0))) :
    Calls Tryz.prog 48 #[.int .i64 i, .pointer (some ⟨ob, 0, none⟩)] W fun e w' => e = .returned (.tuple #[]) ∧ ∃ ao co w3, Below W.heap.size W w3 ∧ w' = w3.setCell ⟨ob, 0, none⟩ (.slice ao 1 co) ∧ w3.ownsRow W.heap.size 3 1 (.slice ao 1 co) 1 [.int .i64 i] := by
  obtain ⟨ao, co, w3, hr, ho, hB, -⟩ := one_append_at 3 44 (.int .i64 0) 8 info_int Tryz.underlying44 rfl (by omega) W W.heap.size (.slice none 0 0) 0 [] (.int .i64 i) rfl (World.ownsRow_nil _ _ _ _) (by omega) (Nat.le_refl _)
  have c0 : W.cell? ⟨ob, 0, none⟩ = some (.slice none 0 0) := by rw [cell_of hb]; rfl
  have hB3 := hB W W.heap.size (Below.refl _ _) (Nat.le_refl _) (Nat.le_refl _)
  have h3 := (hB3.block ob (lt_of hb)).trans hb
  have c3 : w3.cell? ⟨ob, 0, none⟩ = some (.slice none 0 0) := by rw [cell_of h3]; rfl
  have f3 : w3.frozen? ⟨ob, 0, none⟩ = false := frozen_of h3 0
  have HB := Lib.hid hB3
  have HO := Lib.hid ho
  clear hB hB3 ho hb h3
  go_enter Tryz.func48, Tryz.ntmps48
  go_wp2_with (at_builtin; refine wpList_append_run hr rfl rfl rfl rfl rfl ?_)
  go_end0
  exact ⟨rfl, ao, co, w3, HB.out, rfl, HO.out⟩
section
variable {w0 w W : World} {s dk t root : Nat} {F F' : Nat → Prop} {n N : Int} {V D : Int → ByteArray} {S S1 : TS}
theorem ownsRow_base' {w : World} {base base' : Nat} {e : TypeId} {size n : Nat} {v : Value} {xs : List Value} (h : w.ownsRow base e size v n xs) (hb : base' ≤ base) : w.ownsRow base' e size v n xs := by
  refine ⟨h.1, ?_⟩
  rcases h.2 with hn | ⟨g, cap, cur, rfl, hbb, hg, rest⟩
  · exact .inl hn
  · exact .inr ⟨g, cap, cur, rfl, by omega, hg, rest⟩
theorem TRun.owns {w3 W1 : World} {F2 : Nat → Prop} {V2 : Int → ByteArray} (k : TRun w0 W1 w3 s dk F F2 n V2 D N t root S) {B : Nat} {T : TypeId} {sz m : Nat} {v : Value} {xs : List Value} (h : W1.ownsRow B T sz v m xs) (hf : ∀ b, v.ownBlock = some b → ¬ F b) : w3.ownsRow B T sz v m xs ∧ ∀ b, v.ownBlock = some b → ¬ F2 b :=
  ⟨ownsRow_keep h fun g hg => k.tst.upd.block g (h.lt g hg).2 (hf g hg), fun b hb hx => by
    rcases k.tst.new b hx with h1 | h1
    · exact hf b hb h1
    · have := (h.lt b hb).2; omega⟩
/-- what stands from a place on, as a slice -/
theorem Row.from_ {F1 : Nat → Prop} {B : Nat} {v : Value} {l : List Ent} (h : Row W F1 B v l) (hne : 0 < l.length) (i : Nat) (hi : i ≤ l.length) : ∃ g c a, v = .slice (some ⟨g, 0, none⟩) l.length c ∧ l.length ≤ c ∧ (if c = i then (some ⟨g, 0, none⟩ : Option Addr) else some ⟨g, i * 2, none⟩) = a ∧ ERow W a (l.drop i) ∧ ∃ g2 o2, a = some ⟨g2, o2, none⟩ := by
  obtain ⟨ao, c, rfl, er, -, -, hlc⟩ := h.parts
  obtain ⟨g, off, rfl, -⟩ := er.at hne
  obtain ⟨g', cur, e, -⟩ := h.own.block
  simp at e
  obtain ⟨rfl, rfl⟩ := e
  by_cases hc : c = i
  · refine ⟨g, c, _, rfl, hlc, rfl, ?_, ?_⟩
    · rw [List.drop_of_length_le (by omega)]; exact ERow.nil _ _
    · rw [if_pos hc]; exact ⟨g, 0, rfl⟩
  · refine ⟨g, c, _, rfl, hlc, rfl, ?_, ?_⟩
    · rw [if_neg hc]; have := er.drop i; rw [Nat.zero_add] at this; exact this
    · rw [if_neg hc]; exact ⟨g, i * 2, rfl⟩
set_option maxHeartbeats 4000000 in
set_option maxRecDepth 100000 in
theorem twalkP_leaf (hR : TRun w0 w W s dk F F' n V D N t root S) (hb0 : w0.heap.size ≤ w.heap.size) (at_ : Nat) (l : List Ent) (hld : loadM S at_ = some (1, l)) (hne : 0 < l.length) (deep : Int) (from_ : ByteArray) (ob : Nat) (hob : W.heap[ob]? = some (.cells #[.slice none 0 0] 44 (0, 0))) (hw : w.heap.size ≤ ob) (hof : ¬ F' ob) (hos : ob ≠ s) (hot : ob ≠ t) (hN : N < 1000000000) :
    Calls Tryz.prog 47 #[.pointer (some ⟨t, 0, none⟩), .int .i64 at_, .int .i64 deep, .string from_, .func (.func 48) #[] #[.pointer (some ⟨ob, 0, none⟩)], .func (.func 49) #[] #[]] W fun e w' => ∃ F1 ao co, e = .returned (.bool true) ∧ TRun w0 w w' s dk F F1 n V D (N + 4) t root S ∧ w'.heap[ob]? = some (.cells #[.slice ao 1 co] 44 (0, 0)) ∧ ¬ F1 ob ∧ w'.ownsRow W.heap.size 3 1 (.slice ao 1 co) 1 [.int .i64 at_] ∧ (∀ b, (Value.slice ao 1 co).ownBlock = some b → ¬ F1 b) ∧ (∀ b o, W.heap[b]? = some o → ¬ F' b → b ≠ ob → w'.heap[b]? = some o ∧ ¬ F1 b) := by
  obtain ⟨hfine, hok⟩ := loadM_ok hR.tin.shows hld
  have hP2 := pages2_nil ob at_ W hob
  have hlen := hfine.len
  have hasc := hfine.asc
  have hix := lIx_le l from_
  have HLD : Hid (∀ ao co w3, Below W.heap.size W w3 → w3.ownsRow W.heap.size 3 1 (.slice ao 1 co) 1 [.int .i64 at_] → Calls Tryz.prog 39 #[.pointer (some ⟨t, 0, none⟩), .int .i64 at_] (w3.setCell ⟨ob, 0, none⟩ (.slice ao 1 co)) fun e w' => ∃ F1 g c a g2 o2, e = .returned (.tuple #[.int .i64 1, .slice (some ⟨g, 0, none⟩) l.length c]) ∧ (if c = lIx l from_ then (some ⟨g, 0, none⟩ : Option Addr) else some ⟨g, lIx l from_ * 2, none⟩) = a ∧ a = some ⟨g2, o2, none⟩ ∧ l.length ≤ c ∧ (∀ W2, Below w'.heap.size w' W2 → ERow W2 a (l.drop (lIx l from_)) ∧ TRun w0 w W2 s dk F F1 n V D (N + 4) t root S ∧ W2.heap[ob]? = some (.cells #[.slice ao 1 co] 44 (0, 0)) ∧ ¬ F1 ob ∧ W2.ownsRow W.heap.size 3 1 (.slice ao 1 co) 1 [.int .i64 at_] ∧ (∀ b, (Value.slice ao 1 co).ownBlock = some b → ¬ F1 b) ∧ (∀ b o, W.heap[b]? = some o → ¬ F' b → b ≠ ob → W2.heap[b]? = some o ∧ ¬ F1 b)) ∧ Calls Tryz.prog 40 #[.slice (some ⟨g, 0, none⟩) l.length c, .string from_] w' fun e w2 => e = .returned (.tuple #[.int .i64 (lIx l from_ : Nat), .bool (lHas l from_)]) ∧ Below w'.heap.size w' w2) := fun ao co w3 hB ho => by
    have h3 := (hR.made hB).cell hb0 hw hof hos hot 0 (.slice ao 1 co)
    have hobl := lt_of hob
    have hob3 : w3.heap[ob]? = some (.cells #[.slice none 0 0] 44 (0, 0)) := (hB.block ob hobl).trans hob
    have hob4 := heap_setCell_same hob3 0 (.slice ao 1 co)
    have ho4 : (w3.setCell ⟨ob, 0, none⟩ (.slice ao 1 co)).ownsRow W.heap.size 3 1 (.slice ao 1 co) 1 [.int .i64 at_] := ownsRow_keep ho fun g hg => setCell_other (fun e => by have := (ho.lt g hg).1; omega)
    have hro : ∀ b, (Value.slice ao 1 co).ownBlock = some b → ¬ F' b := fun b hb hf => by have h1 := (ho.lt b hb).1; have h2 := hR.tin.lt b hf; omega
    have h3r := h3.tin.run
    refine (load_run h3r at_ 1 l hld (by omega)).mono ?_
    rintro e w' ⟨F1, v, he, hr, row, -⟩
    obtain ⟨g, c, a, rfl, hlc, ha, era, g2, o2, e2⟩ := row.from_ hne (lIx l from_) hix
    obtain ⟨_, _, e3, er3, -⟩ := row.parts
    simp at e3
    obtain ⟨rfl, rfl⟩ := e3
    obtain ⟨b1, b2⟩ := hr.stays hob4 hof
    obtain ⟨r1, r2⟩ := hr.owns ho4 hro
    have hj := h3.join hr
    refine ⟨F1, g, c, a, g2, o2, he, ha, e2, hlc, fun W2 hB2 => ⟨era.made hB2, hj.made hB2, (hB2.block ob (lt_of b1)).trans b1, b2, ownsRow_keep r1 fun x hx => hB2.block x (r1.lt x hx).2, r2, fun x o hx hxf hne2 => by
      have h5 := (setCell_other (w := w3) (i := 0) (u := .slice ao 1 co) hne2).trans ((hB.block x (lt_of hx)).trans hx)
      obtain ⟨s1, s2⟩ := hr.stays h5 hxf
      exact ⟨(hB2.block x (lt_of s1)).trans s1, s2⟩⟩, find_any w' _ c l from_ er3 hasc (by omega)⟩
  have hml : (l.drop (lIx l from_)).length = l.length - lIx l from_ := List.length_drop
  have HAT : Hid (∀ W2 a, ERow W2 a (l.drop (lIx l from_)) → ∀ k, k < l.length - lIx l from_ → ∃ g3 o3 x y, a = some ⟨g3, o3, none⟩ ∧ W2.cell? ⟨g3, o3 + k * 2, none⟩ = some (.string x) ∧ W2.cell? ⟨g3, o3 + k * 2 + 1, none⟩ = some (.string y)) := fun W2 a er k hk => by
    obtain ⟨g3, o3, e, c0, c1⟩ := er.at (i := k) (by rw [hml]; exact hk)
    exact ⟨g3, o3, _, _, e, c0, c1⟩
  clear hR hld hob hfine hok hml hasc
  obtain ⟨L, HL⟩ : ∃ L, Hid (l.drop (lIx l from_) = L) := ⟨_, Lib.hid rfl⟩
  rw [HL.out] at HLD HAT
  clear HL
  generalize lHas l from_ = hb at *
  generalize lIx l from_ = ix at *
  generalize l.length = m at *
  go_enter Tryz.func47, Tryz.ntmps47
  go_wp2_with fail
  refine hP2.mono ?_
  rintro e w1 ⟨rfl, ao, co, w3, hB3, rfl, ho3⟩
  have hld2 := HLD.out ao co w3 hB3 ho3
  clear hP2 HLD hB3 ho3
  go_wp2_with fail
  refine hld2.mono ?_
  rintro e w4 ⟨F1, g, c, a, g2, o2, rfl, ha, rfl, hlc, hst, hfd⟩
  have HST := Lib.hid hst
  clear hld2 hst
  have z1 : ix ≤ m := hix
  have z2 : (ix : Int) ≤ (m : Int) := by omega
  have z3 : m ≤ c := hlc
  go_wp2_with fail
  refine hfd.mono ?_
  rintro e w5 ⟨rfl, hB5⟩
  clear hfd
  obtain ⟨q, hq⟩ : ∃ q, m - ix = q := ⟨_, rfl⟩
  rw [hq] at HAT
  go_wp2_with fail
  go_loopw [42] (fun v wr => ∃ k : Nat, v = .int .i64 k ∧ k ≤ q ∧ Below w4.heap.size w4 wr) (fun v _ => q - (intOf v).toNat)
  case atStart => exact ⟨0, rfl, Nat.zero_le _, hB5⟩
  case round =>
    obtain ⟨k, rfl, hk, hB⟩ := hrel
    have hBo : ∀ o : Obj, Below w4.heap.size w4 (wr.alloc o) := fun o => hB.alloc hB.size o
    by_cases hlt : k < q
    · obtain ⟨era, -⟩ := HST.out wr hB
      obtain ⟨g3, o3, x, y, e3, c0, c1⟩ := HAT.out wr _ era k hlt
      simp at e3
      obtain ⟨rfl, rfl⟩ := e3
      clear HST HAT era
      go_wp2_with fail
      refine (pages3_any x y _).mono ?_
      rintro e w6 ⟨rfl, hB6⟩
      have hB7 : Below w4.heap.size w4 w6 := (hBo _).trans (hB6.mono (hBo (boxE x y)).size)
      go_wp2
      go_roundw
      case rel => exact ⟨k + 1, by go_num, by omega, hB7⟩
      case measure => simp [intOf]; omega
    · obtain rfl : k = q := by omega
      obtain ⟨-, hf⟩ := HST.out wr hB
      have HF := Lib.hid hf
      clear HST HAT hf
      go_wp2
      go_ret
      obtain ⟨f1, f2, f3, f4, f5, f6⟩ := HF.out
      exact ⟨F1, ao, co, rfl, f1, f2, f3, f4, f5, f6⟩
theorem pages1_idle (eb ob : Nat) (u : FrameMode) (W : World) (h : W.cell? ⟨eb, 0, none⟩ = some (.int .i64 0)) : CallsD Tryz.prog 46 #[.pointer (some ⟨eb, 0, none⟩), .pointer (some ⟨ob, 0, none⟩)] u W fun e u' w' => u' = u ∧ e = .returned (.tuple #[]) ∧ w' = W := by
  go_enter_d Tryz.func46, Tryz.ntmps46
  go_wp2
  go_end0
  first | exact ⟨rfl, rfl⟩ | exact ⟨rfl, rfl, rfl⟩
theorem sort_one {W : World} {B : Nat} {ao : Option Addr} {co : Nat} {i : Int} (h : W.ownsRow B 3 1 (.slice ao 1 co) 1 [.int .i64 i]) :
    Calls Tryz.prog 50 #[.slice ao 1 co] W fun e w' => e = .returned (.tuple #[]) ∧ Below W.heap.size W w' := by
  rcases h.2 with ⟨hv, h0⟩ | ⟨g, cap, cur, hv, hb, hg, hn, hm, hs, ht⟩
  · omega
  · simp at hv
    obtain ⟨rfl, rfl⟩ := hv
    have c0 : W.cell? ⟨g, 0, none⟩ = some (.int .i64 i) := by rw [h.cellAt 0 (by omega)]; rfl
    have hH : Go.Sort.Holds (Value.int .i64) W g 0 [i].toArray := fun j hj => by
      obtain rfl : j = 0 := by simpa using hj
      exact ⟨by simpa using c0, frozen_of hg _⟩
    refine (Tryz.slices_Sort_int g 0 co [i] W hH (lt_of hg) (by simp)).mono ?_
    rintro e w' ⟨he, q, os, rfl⟩
    refine ⟨he, ?_⟩
    have e1 : ([i].mergeSort fun x y => decide (x ≤ y)) = [i] := by simp [List.mergeSort]
    rw [e1, Go.Sort.putRow_self _ _ _ _ _ (Go.Sort.holds_ahead _ _ _ _ _ _ hH)]
    exact below_grown_sl W.heap.size W q os (Nat.le_refl _)
set_option maxHeartbeats 4000000 in
set_option maxRecDepth 100000 in
theorem tpages_leaf (h : TIn w0 w s dk F n V D N t root S) (l : List Ent) (hld : loadM S root = some (1, l)) (hne : 0 < l.length) (hN : N < 1000000000) :
    Calls Tryz.prog 17 #[.pointer (some ⟨t, 0, none⟩)] w fun e w' => ∃ F' ao co, e = .returned (.tuple #[.slice ao 1 co, .int .i64 0]) ∧ TRun w0 w w' s dk F F' n V D (N + 4) t root S ∧ w'.ownsRow w.heap.size 3 1 (.slice ao 1 co) 1 [.int .i64 root] := by
  have hb0 := h.sin.below.size
  have hsl := h.sin.slt
  have htl := lt_of h.at_.obj
  obtain ⟨W1, hW1⟩ : ∃ W1, (w.alloc (.cells #[.slice none 0 0] 44)).alloc (.cells #[.int .i64 0] 26) = W1 := ⟨_, rfl⟩
  have hB1 : Below w.heap.size w W1 := by rw [← hW1]; exact ((Below.refl w.heap.size w).alloc (Nat.le_refl _) _).alloc (by simp) _
  have o1 : W1.heap[w.heap.size]? = some (.cells #[.slice none 0 0] 44 (0, 0)) := by rw [← hW1]; exact (Below.heap_alloc _ _ _ (by simp)).trans (heap_alloc_new' w _)
  have o2 : W1.heap[w.heap.size + 1]? = some (.cells #[.int .i64 0] 26 (0, 0)) := by
    rw [← hW1]
    have := heap_alloc_new' (w.alloc (.cells #[.slice none 0 0] 44)) (.cells #[.int .i64 0] 26 (0, 0))
    rwa [World.size_alloc] at this
  have hnf1 : ¬ F w.heap.size := fun hf => by have := h.lt _ hf; omega
  have hnf2 : ¬ F (w.heap.size + 1) := fun hf => by have := h.lt _ hf; omega
  have hr1 := h.run.made hB1
  obtain ⟨-, c1⟩ := hr1.tin.cell
  have hWK := twalkP_leaf hr1 hb0 root l hld hne 0 ⟨#[]⟩ w.heap.size o1 (Nat.le_refl _) hnf1 (by omega) (by omega) hN
  have HW1 := Lib.hid hW1
  -- behind the walk: sorted, laid, told
  have HE : Hid (∀ (w2 w3 : World) F1 ao co, TRun w0 w w2 s dk F F1 n V D (N + 4) t root S → w2.heap[w.heap.size]? = some (.cells #[.slice ao 1 co] 44 (0, 0)) → ¬ F1 w.heap.size → w2.ownsRow W1.heap.size 3 1 (.slice ao 1 co) 1 [.int .i64 root] → (∀ b, (Value.slice ao 1 co).ownBlock = some b → ¬ F1 b) → (w2.heap[w.heap.size + 1]? = some (.cells #[.int .i64 0] 26 (0, 0)) ∧ ¬ F1 (w.heap.size + 1)) → Below w2.heap.size w2 w3 →
      w3.cell? ⟨w.heap.size, 0, none⟩ = some (.slice ao 1 co) ∧ w3.frozen? ⟨w.heap.size, 0, none⟩ = false ∧ (∀ W4, W4 = w3.setCell ⟨w.heap.size, 0, none⟩ (.slice ao 1 co) → W4.cell? ⟨w.heap.size + 1, 0, none⟩ = some (.int .i64 0) ∧ W4.frozen? ⟨w.heap.size + 1, 0, none⟩ = false ∧ ∀ W5, W5 = W4.setCell ⟨w.heap.size + 1, 0, none⟩ (.int .i64 0) → W5.cell? ⟨w.heap.size, 0, none⟩ = some (.slice ao 1 co) ∧ W5.cell? ⟨w.heap.size + 1, 0, none⟩ = some (.int .i64 0) ∧ TRun w0 w W5 s dk F F1 n V D (N + 4) t root S ∧ W5.ownsRow w.heap.size 3 1 (.slice ao 1 co) 1 [.int .i64 root])) := fun w2 w3 F1 ao co hr ho hnf ho2 hro he hB => by
    have p1 := (hB.block _ (lt_of ho)).trans ho
    have p2 := (hB.block _ (lt_of he.1)).trans he.1
    have hr3 := hr.made hB
    have ho3 : w3.ownsRow W1.heap.size 3 1 (.slice ao 1 co) 1 [.int .i64 root] := ownsRow_keep ho2 fun x hx => hB.block x (ho2.lt x hx).2
    have hsz1 : W1.heap.size = w.heap.size + 2 := by rw [← HW1.out]; simp
    refine ⟨by rw [cell_of p1]; rfl, frozen_of p1 0, fun W4 e4 => ?_⟩
    subst e4
    have q1 := heap_setCell_same p1 0 (.slice ao 1 co)
    have q2 : (w3.setCell ⟨w.heap.size, 0, none⟩ (.slice ao 1 co)).heap[w.heap.size + 1]? = some (.cells #[.int .i64 0] 26 (0, 0)) := (setCell_other (by omega)).trans p2
    have hr4 := hr3.cell hb0 (Nat.le_refl _) hnf (by omega) (by omega) 0 (.slice ao 1 co)
    refine ⟨by rw [cell_of q2]; rfl, frozen_of q2 0, fun W5 e5 => ?_⟩
    subst e5
    have q3 := heap_setCell_same q2 0 (.int .i64 0)
    have q4 := (setCell_other (w := w3.setCell ⟨w.heap.size, 0, none⟩ (.slice ao 1 co)) (b := w.heap.size + 1) (i := 0) (u := .int .i64 0) (g := w.heap.size) (by omega)).trans q1
    have hr5 := hr4.cell hb0 (by omega) he.2 (by omega) (by omega) 0 (.int .i64 0)
    refine ⟨by rw [cell_of q4]; rfl, by rw [cell_of q3]; rfl, hr5, ?_⟩
    refine ownsRow_base' (ownsRow_keep ho3 fun x hx => ?_) (by omega)
    have := (ho3.lt x hx).1
    exact (setCell_other (by omega)).trans (setCell_other (by omega))
  clear h hr1 o1 hB1
  go_enter_defers Tryz.func17, Tryz.ntmps17
  go_wp2_with fail
  refine hWK.mono ?_
  rintro e w2 ⟨F1, ao, co, rfl, hr2, hob, hnf, hown, hro, hst⟩
  have he := hst _ _ o2 hnf2 (by omega)
  have cob : w2.cell? ⟨w.heap.size, 0, none⟩ = some (.slice ao 1 co) := by rw [cell_of hob]; rfl
  have hso := sort_one hown
  have HE2 : Hid (∀ w3, Below w2.heap.size w2 w3 → _) := fun w3 hB => HE.out w2 w3 F1 ao co hr2 hob hnf hown hro he hB
  clear hWK HE hr2 hob hown hro hst he o2 hnf
  go_wp2_with fail
  refine hso.mono ?_
  rintro e w3 ⟨rfl, hB3⟩
  obtain ⟨c3, f3, hx⟩ := HE2.out w3 hB3
  obtain ⟨c4, f4, hy⟩ := hx _ rfl
  obtain ⟨c5, c6, hr5, ho5⟩ := hy _ rfl
  have HR5 := Lib.hid hr5
  have HO5 := Lib.hid ho5
  clear hso HE2 hx hy hr5 ho5
  go_wp2
  generalize (w3.setCell ⟨w.heap.size, 0, none⟩ (.slice ao 1 co)).setCell ⟨w.heap.size + 1, 0, none⟩ (.int .i64 0) = W5 at *
  refine leaves_cons (f := 27) (args := #[.pointer (some ⟨w.heap.size + 1, 0, none⟩)]) (by simp) (by simp [go_sem]) ?_
  refine (settle_idle ⟨w.heap.size + 1, 0, none⟩ _).mono ?_
  rintro e u' w'' ⟨rfl, rfl, rfl⟩
  refine leaves_cons (f := 46) (args := #[.pointer (some ⟨w.heap.size + 1, 0, none⟩), .pointer (some ⟨w.heap.size, 0, none⟩)]) (by simp [settle]) (by simp [go_sem]) ?_
  refine (pages1_idle (w.heap.size + 1) w.heap.size _ _ c6).mono ?_
  rintro e u' w7 ⟨rfl, rfl, rfl⟩
  have h7 := HR5.out
  have h8 := HO5.out
  clear HR5 HO5 HW1 hW1
  simp [Leaves, settle, results, Tryz.results17, go_sem, c5, c6]
  exact ⟨_, _, _, ⟨rfl, rfl⟩, h7, h8⟩
end
end
end Go.Proofs.YtmgcaohpbaiiaaaGreatDoor
