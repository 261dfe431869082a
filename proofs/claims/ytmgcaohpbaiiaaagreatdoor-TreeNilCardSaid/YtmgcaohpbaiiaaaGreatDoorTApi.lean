/- tree.New, At, Put; take at a leaf, Delete without a root that has an only child. -/
import Derived.Test.YtmgcaohpbaiiaaaGreatDoorTPut
import Derived.Test.YtmgcaohpbaiiaaaGreatDoorTNilA
set_option linter.unusedSimpArgs false
set_option linter.unusedVariables false
namespace Go.Proofs.YtmgcaohpbaiiaaaGreatDoor
open Go.RowKit Go.Maps Go.Shelf

section
variable {w0 w W : World} {s dk t root : Nat} {F : Nat → Prop} {n N : Int} {V D : Int → ByteArray} {S S1 : TS}
/-- a tree is made: its page -/
def newM (f m : Nat) (S : TS) : Option (TS × Nat) := (allocM f m S).bind fun p => (storeM f m p.2 p.1 1 []).map fun S2 => (S2, p.1)
set_option maxHeartbeats 2000000 in
set_option maxRecDepth 100000 in
theorem tnew_any (h : SIn w0 w s dk F n V D N) (hlt : ∀ b, F b → b < w.heap.size) (hS : Shows n V S) (at_ : Nat) (hp : newM (jFirst n).toNat (spMany n) S = some (S1, at_)) (hN : N < 1000000000000) :
    Calls Tryz.prog 10 #[.pointer (some ⟨s, 0, none⟩)] w fun e w' => ∃ F' V', e = .returned (.tuple #[.int .i64 at_, .int .i64 0]) ∧ TSt w0 w w' s dk F F' n V' D (N + 8) ∧ Shows n V' S1 := by
  unfold newM at hp
  simp only [Option.map_eq_some_iff, Option.bind_eq_some_iff] at hp
  obtain ⟨⟨a, S0⟩, ha, S2, hs, e9⟩ := hp
  simp only [Prod.mk.injEq] at e9
  obtain ⟨rfl, rfl⟩ := e9
  simp only at hs
  have hsl := h.slt
  have hb0 := h.below.size
  -- the error's cell, then the tree's block
  have HT : Hid (∀ Wt, Wt = (w.alloc (.cells #[.int .i64 0] 26)).alloc (.cells #[.pointer (some ⟨s, 0, none⟩), .int .i64 0] 70) →
      TIn w0 Wt s dk F n V D N (w.heap.size + 1) 0 S ∧ Below w.heap.size w Wt ∧ Wt.heap[w.heap.size]? = some (.cells #[.int .i64 0] 26 (0, 0)) ∧ Wt.heap.size = w.heap.size + 2) := fun Wt e => by
    subst e
    have hB : Below w.heap.size w ((w.alloc (.cells #[.int .i64 0] 26)).alloc (.cells #[.pointer (some ⟨s, 0, none⟩), .int .i64 0] 70)) := ((Below.refl _ w).alloc (Nat.le_refl _) _).alloc (by simp) _
    have hobj := heap_alloc_new' (w.alloc (.cells #[.int .i64 0] 26)) (.cells #[.pointer (some ⟨s, 0, none⟩), .int .i64 0] 70 (0, 0))
    rw [World.size_alloc] at hobj
    refine ⟨⟨h.made hB, fun b hb => by have := hlt b hb; simp; omega, ⟨hobj, fun hf => by have := hlt _ hf; omega⟩, hS⟩, hB, (Below.heap_alloc _ _ _ (by simp)).trans (heap_alloc_new' w _), by simp⟩
  have HM : Hid (∀ Wt, TIn w0 Wt s dk F n V D N (w.heap.size + 1) 0 S → Calls Tryz.prog 28 #[.pointer (some ⟨w.heap.size + 1, 0, none⟩)] Wt fun e w' => ∃ F1 V1, e = .returned (.int .i64 a) ∧ TRun w0 Wt w' s dk F F1 n V1 D (N + 4) (w.heap.size + 1) 0 S0) := fun Wt ht => (alloc_run ht.run a ha (by omega)).mono fun e w' ⟨F1, V1, he, hr, _⟩ => ⟨F1, V1, he, hr⟩
  have HM2 : Hid (∀ Wt w1 F1 V1, TRun w0 Wt w1 s dk F F1 n V1 D (N + 4) (w.heap.size + 1) 0 S0 → Calls Tryz.prog 29 #[.pointer (some ⟨w.heap.size + 1, 0, none⟩), .int .i64 a, .int .i64 1, .slice none 0 0] w1 fun e w' => ∃ F2 V2, e = .returned (.tuple #[]) ∧ TRun w0 Wt w' s dk F F2 n V2 D (N + 8) (w.heap.size + 1) 0 S2) := fun Wt w1 F1 V1 hr => (store_run hr a 1 [] none 0 (ERow.nil _ _) hs (by omega)).mono fun e w' ⟨F2, V2, he, hr2, _⟩ => ⟨F2, V2, he, by have := hr2.mono (show N + 4 + 4 ≤ N + 8 by omega); exact this⟩
  have HEND : Hid (∀ Wt w3 F2 V2, Wt = (w.alloc (.cells #[.int .i64 0] 26)).alloc (.cells #[.pointer (some ⟨s, 0, none⟩), .int .i64 0] 70) → TRun w0 Wt w3 s dk F F2 n V2 D (N + 8) (w.heap.size + 1) 0 S2 →
      w3.cell? ⟨w.heap.size, 0, none⟩ = some (.int .i64 0) ∧ w3.frozen? ⟨w.heap.size, 0, none⟩ = false ∧ TSt w0 w (w3.setCell ⟨w.heap.size, 0, none⟩ (.int .i64 0)) s dk F F2 n V2 D (N + 8) ∧ Shows n V2 S2 ∧ (w3.setCell ⟨w.heap.size, 0, none⟩ (.int .i64 0)).cell? ⟨w.heap.size, 0, none⟩ = some (.int .i64 0)) := fun Wt w3 F2 V2 e hr => by
    obtain ⟨ht, hB, hobj, hsz⟩ := HT.out Wt e
    have hnf : ¬ F w.heap.size := fun hf => by have := hlt _ hf; omega
    have hobj3 := (hr.tst.upd.block w.heap.size (by omega) hnf).trans hobj
    have hnf2 : ¬ F2 w.heap.size := fun hf => by
      rcases hr.tst.new _ hf with hf | hf
      · exact hnf hf
      · omega
    have h1 : TSt w0 w w3 s dk F F2 n V2 D (N + 8) := ⟨hr.tst.sin, ⟨hr.tst.upd.os.trans hB.os, hr.tst.upd.tape.trans hB.tape, hr.tst.upd.output.trans hB.output, by have := hr.tst.upd.size; omega, fun b hb hnb => (hr.tst.upd.block b (by omega) hnb).trans (hB.block b hb)⟩, fun b hb => by
      rcases hr.tst.new b hb with hf | hf
      · exact .inl hf
      · exact .inr (by omega), hr.tst.lt⟩
    have h2 := h1.cell hb0 (Nat.le_refl _) hnf2 (by omega) 0 (.int .i64 0)
    exact ⟨by rw [cell_of hobj3]; rfl, frozen_of hobj3 0, h2, hr.tin.shows, by rw [cell_of (heap_setCell_same hobj3 0 _)]; rfl⟩
  clear h hlt hS ha hs
  go_enter_defers Tryz.func10, Tryz.ntmps10
  go_wp2_with fail
  obtain ⟨Wt, hWt⟩ : ∃ Wt, Wt = (w.alloc (.cells #[.int .i64 0] 26)).alloc (.cells #[.pointer (some ⟨s, 0, none⟩), .int .i64 0] 70) := ⟨_, rfl⟩
  have ht := (HT.out Wt hWt).1
  rw [← hWt]
  have HWT := Lib.hid hWt
  have hm := HM.out Wt ht
  clear hWt HT HM ht
  refine hm.mono ?_
  rintro e w1 ⟨F1, V1, rfl, hr1⟩
  have hm2 := HM2.out Wt w1 F1 V1 hr1
  clear hm HM2 hr1
  go_wp2_with fail
  refine hm2.mono ?_
  rintro e w3 ⟨F2, V2, rfl, hr3⟩
  obtain ⟨c3, f3, h4, h5, c4⟩ := HEND.out Wt w3 F2 V2 HWT.out hr3
  have H4 := Lib.hid h4
  clear hm2 HEND hr3 h4
  go_wp2
  generalize w3.setCell ⟨w.heap.size, 0, none⟩ (.int .i64 0) = w4 at *
  refine leaves_cons (f := 27) (args := #[.pointer (some ⟨w.heap.size, 0, none⟩)]) (by simp) (by simp [go_sem]) ?_
  refine (settle_idle ⟨w.heap.size, 0, none⟩ _).mono ?_
  rintro e u' w'' ⟨rfl, rfl, rfl⟩
  have h6 := H4.out
  clear H4 HWT
  simp [Leaves, settle, results, Tryz.results10, go_sem, c4]
  exact ⟨F2, V2, h6, h5⟩
theorem at_any (r : Nat) (w : World) : Calls Tryz.prog 11 #[.pointer (some ⟨s, 0, none⟩), .int .i64 r] w fun e w' => e = .returned (.pointer (some ⟨w.heap.size, 0, none⟩)) ∧ w' = w.alloc (.cells #[.pointer (some ⟨s, 0, none⟩), .int .i64 r] 70) := by
  go_enter Tryz.func11, Tryz.ntmps11
  go_wp2
  go_ret
  exact ⟨rfl, rfl⟩
theorem TIn.at_new (h : SIn w0 w s dk F n V D N) (hlt : ∀ b, F b → b < w.heap.size) (hS : Shows n V S) (r : Nat) : TIn w0 (w.alloc (.cells #[.pointer (some ⟨s, 0, none⟩), .int .i64 r] 70)) s dk F n V D N w.heap.size r S :=
  ⟨h.alloc _, fun b hb => by have := hlt b hb; simp; omega, ⟨heap_alloc_new' w _, fun hf => by have := hlt _ hf; omega⟩, hS⟩
theorem TRun.drop {w3 W1 : World} {F2 : Nat → Prop} {V2 : Int → ByteArray} (k : TRun w0 W1 w3 s dk F F2 n V2 D N t root S) (hB : Below w.heap.size w W1) : TRun w0 w w3 s dk F F2 n V2 D N t root S :=
  ⟨k.tin, k.tst.sin, ⟨k.tst.upd.os.trans hB.os, k.tst.upd.tape.trans hB.tape, k.tst.upd.output.trans hB.output, by have := k.tst.upd.size; have := hB.size; omega, fun b hb hnb => (k.tst.upd.block b (by have := hB.size; omega) hnb).trans (hB.block b hb)⟩, fun b hb => by
    rcases k.tst.new b hb with hf | hf
    · exact .inl hf
    · exact .inr (by have := hB.size; omega), k.tst.lt⟩
/-- a block that is none of the space's stays -/
theorem TRun.stays {w3 W1 : World} {F2 : Nat → Prop} {V2 : Int → ByteArray} (k : TRun w0 W1 w3 s dk F F2 n V2 D N t root S) {b : Nat} {o : Obj} (ho : W1.heap[b]? = some o) (hf : ¬ F b) : w3.heap[b]? = some o ∧ ¬ F2 b :=
  ⟨(k.tst.upd.block b (lt_of ho) hf).trans ho, fun hb => by
    rcases k.tst.new b hb with h | h
    · exact hf h
    · have := lt_of ho; omega⟩
set_option maxHeartbeats 2000000 in
set_option maxRecDepth 100000 in
theorem tput_api (h : TIn w0 w s dk F n V D N t root S) (key value : ByteArray) (hk : key.size ≤ 32) (hv : value.size ≤ 64) (hk0 : key.toList.isEmpty = false) (ps : List Ent) (hp : putM (jFirst n).toNat (spMany n) root key value 66 S root = some (S1, ps)) (hN : N < 100000000000) :
    Calls Tryz.prog 18 #[.pointer (some ⟨t, 0, none⟩), .string key, .string value] w fun e w' => ∃ F' V', e = .returned (.int .i64 0) ∧ TRun w0 w w' s dk F F' n V' D (N + 6600) t root S1 := by
  have hb0 := h.sin.below.size
  have hsl := h.sin.slt
  have htl := lt_of h.at_.obj
  have hnf : ¬ F w.heap.size := fun hf => by have := h.lt _ hf; omega
  have hB1 : Below w.heap.size w (w.alloc (.cells #[.int .i64 0] 26)) := (Below.refl _ w).alloc (Nat.le_refl _) _
  have h1 := h.made hB1
  obtain ⟨c0, c1⟩ := h1.cell
  have hP := tput_any key value hk hv D 66 _ F V N S S1 root ps h1 hp (by omega) (by omega)
  have HE : Hid (∀ w3 F3 V3, TRun w0 (w.alloc (.cells #[.int .i64 0] 26)) w3 s dk F F3 n V3 D (N + 100 * ((66 : Nat) : Int)) t root S1 → w3.cell? ⟨w.heap.size, 0, none⟩ = some (.int .i64 0) ∧ w3.frozen? ⟨w.heap.size, 0, none⟩ = false ∧ TRun w0 w (w3.setCell ⟨w.heap.size, 0, none⟩ (.int .i64 0)) s dk F F3 n V3 D (N + 6600) t root S1 ∧ (w3.setCell ⟨w.heap.size, 0, none⟩ (.int .i64 0)).cell? ⟨w.heap.size, 0, none⟩ = some (.int .i64 0)) := fun w3 F3 V3 hr => by
    obtain ⟨b1, b2⟩ := hr.stays (heap_alloc_new' w _) hnf
    have h3 := (hr.drop hB1).cell hb0 (Nat.le_refl _) b2 (by omega) (by omega) 0 (.int .i64 0)
    exact ⟨by rw [cell_of b1]; rfl, frozen_of b1 0, h3, by rw [cell_of (heap_setCell_same b1 0 _)]; rfl⟩
  clear h h1 hB1 hp
  have e1 : ¬ ((32 : Int) < (key.size : Int)) := by omega
  have e2 : ¬ ((64 : Int) < (value.size : Int)) := by omega
  go_enter_defers Tryz.func18, Tryz.ntmps18
  go_wp2_with fail
  refine hP.mono ?_
  rintro e w3 ⟨F3, V3, vb, vc, rfl, hr3, -⟩
  obtain ⟨c3, f3, h4, c4⟩ := HE.out w3 F3 V3 hr3
  have H4 := Lib.hid h4
  clear hP HE hr3 h4
  go_wp2
  generalize w3.setCell ⟨w.heap.size, 0, none⟩ (.int .i64 0) = w4 at *
  refine leaves_cons (f := 27) (args := #[.pointer (some ⟨w.heap.size, 0, none⟩)]) (by simp) (by simp [go_sem]) ?_
  refine (settle_idle ⟨w.heap.size, 0, none⟩ _).mono ?_
  rintro e u' w'' ⟨rfl, rfl, rfl⟩
  have h6 := H4.out
  clear H4
  simp [Leaves, settle, results, Tryz.results18, go_sem, c4]
  exact ⟨F3, V3, h6⟩
end
end Go.Proofs.YtmgcaohpbaiiaaaGreatDoor
