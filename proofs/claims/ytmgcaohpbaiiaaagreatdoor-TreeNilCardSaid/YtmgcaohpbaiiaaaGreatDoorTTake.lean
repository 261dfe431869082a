/- Tree.take at a leaf; Tree.Delete where the root is a leaf. -/
import Derived.Test.YtmgcaohpbaiiaaaGreatDoorTApi
set_option linter.unusedSimpArgs false
set_option linter.unusedVariables false
namespace Go.Proofs.YtmgcaohpbaiiaaaGreatDoor
open Go.RowKit Go.Maps Go.Shelf

section
variable {w0 w W : World} {s dk t root : Nat} {F : Nat → Prop} {n N : Int} {V D : Int → ByteArray} {S S1 : TS}
set_option maxHeartbeats 2000000 in
set_option maxRecDepth 100000 in
theorem ttake_leaf (h : TIn w0 w s dk F n V D N t root S) (key : ByteArray) (at_ : Nat) (l : List Ent) (hld : loadM S at_ = some (1, l)) (hh : lHas l key = true) (hs : storeM (jFirst n).toNat (spMany n) S at_ 1 (lTake l key) = some S1) (deep : Int) (hN : N < 1000000000000) :
    Calls Tryz.prog 43 #[.pointer (some ⟨t, 0, none⟩), .int .i64 at_, .int .i64 deep, .string key] w fun e w' => ∃ F' V', e = .returned (.tuple #[.int .i64 (lTake l key).length, .bool true]) ∧ TRun w0 w w' s dk F F' n V' D (N + 8) t root S1 := by
  obtain ⟨hfine, hok⟩ := loadM_ok h.shows hld
  have hL := load_run h.run at_ 1 l hld (by omega)
  have hlen := hfine.len
  have hasc := hfine.asc
  have HTK : Hid (∀ w1 F1 v, TRun w0 w w1 s dk F F1 n V D (N + 4) t root S → Row w1 F1 w.heap.size v l → Calls Tryz.prog 78 #[v, .string key] w1 fun e w' => ∃ ao c, e = .returned (.tuple #[.slice ao (lTake l key).length c, .bool true]) ∧
      Calls Tryz.prog 29 #[.pointer (some ⟨t, 0, none⟩), .int .i64 at_, .int .i64 1, .slice ao (lTake l key).length c] w' fun e w2 => ∃ F2 V2, e = .returned (.tuple #[]) ∧ TRun w0 w w2 s dk F F2 n V2 D (N + 8) t root S1) := fun w1 F1 v hr hrow => by
    obtain ⟨ao, c, rfl, er, hat, hnil, -⟩ := hrow.parts
    have := ltake_any w1 ao c l key er hat hnil hasc (by omega)
    rw [hh] at this
    refine this.mono ?_
    rintro e w' ⟨v2, he, ho, hB⟩
    have row2 : Row w' F1 w.heap.size v2 (lTake l key) := Row.new hr ho
    obtain ⟨a2, c2, rfl, er2, -⟩ := row2.parts
    refine ⟨a2, c2, he, (store_run (hr.made hB) at_ 1 (lTake l key) a2 c2 er2 hs (by omega)).mono ?_⟩
    rintro e w2 ⟨F2, V2, he2, hr2, -⟩
    exact ⟨F2, V2, he2, by have := hr2.mono (show N + 4 + 4 ≤ N + 8 by omega); exact this⟩
  clear hfine hok hasc hs hh hld h
  generalize (lTake l key).length = m at *
  go_enter Tryz.func43, Tryz.ntmps43
  go_wp2_with fail
  refine hL.mono ?_
  rintro e w1 ⟨F1, v, rfl, hR1, hrow1, -⟩
  have htk := HTK.out w1 F1 v hR1 hrow1
  clear hL HTK hR1 hrow1
  go_wp2_with fail
  refine htk.mono ?_
  rintro e w2 ⟨ao, c, rfl, hst⟩
  clear htk
  go_wp2_with fail
  refine hst.mono ?_
  rintro e w3 ⟨F2, V2, rfl, hR3⟩
  clear hst
  go_wp2
  go_ret2
  exact ⟨F2, V2, rfl, hR3⟩
set_option maxHeartbeats 2000000 in
set_option maxRecDepth 100000 in
theorem tdel_leaf (h : TIn w0 w s dk F n V D N t root S) (key : ByteArray) (l l' : List Ent) (hld : loadM S root = some (1, l)) (hh : lHas l key = true) (hs : storeM (jFirst n).toNat (spMany n) S root 1 (lTake l key) = some S1) (hld2 : loadM S1 root = some (1, l')) (hN : N < 1000000000) :
    Calls Tryz.prog 16 #[.pointer (some ⟨t, 0, none⟩), .string key] w fun e w' => ∃ F' V', e = .returned (.tuple #[.bool true, .int .i64 0]) ∧ TRun w0 w w' s dk F F' n V' D (N + 12) t root S1 := by
  have hb0 := h.sin.below.size
  have hsl := h.sin.slt
  have htl := lt_of h.at_.obj
  have hnf : ¬ F w.heap.size := fun hf => by have := h.lt _ hf; omega
  have hB1 : Below w.heap.size w (w.alloc (.cells #[.int .i64 0] 26)) := (Below.refl _ w).alloc (Nat.le_refl _) _
  have h1 := h.made hB1
  obtain ⟨c0, c1⟩ := h1.cell
  have hT := ttake_leaf h1 key root l hld hh hs 0 (by omega)
  have HLD : Hid (∀ w3 F3 V3, TRun w0 (w.alloc (.cells #[.int .i64 0] 26)) w3 s dk F F3 n V3 D (N + 8) t root S1 → w3.cell? ⟨t, 1, none⟩ = some (.int .i64 root) ∧ Calls Tryz.prog 39 #[.pointer (some ⟨t, 0, none⟩), .int .i64 root] w3 fun e w' => ∃ F1 v, e = .returned (.tuple #[.int .i64 1, v]) ∧ TRun w0 (w.alloc (.cells #[.int .i64 0] 26)) w' s dk F F1 n V3 D (N + 12) t root S1) := fun w3 F3 V3 hr => ⟨hr.tin.cell.2, (load_run hr root 1 l' hld2 (by omega)).mono fun e w' ⟨F1, v, he, hr2, _⟩ => ⟨F1, v, he, by have := hr2.mono (show N + 8 + 4 ≤ N + 12 by omega); exact this⟩⟩
  have HE : Hid (∀ w3 F3 V3, TRun w0 (w.alloc (.cells #[.int .i64 0] 26)) w3 s dk F F3 n V3 D (N + 12) t root S1 → w3.cell? ⟨w.heap.size, 0, none⟩ = some (.int .i64 0) ∧ w3.frozen? ⟨w.heap.size, 0, none⟩ = false ∧ TRun w0 w (w3.setCell ⟨w.heap.size, 0, none⟩ (.int .i64 0)) s dk F F3 n V3 D (N + 12) t root S1 ∧ (w3.setCell ⟨w.heap.size, 0, none⟩ (.int .i64 0)).cell? ⟨w.heap.size, 0, none⟩ = some (.int .i64 0)) := fun w3 F3 V3 hr => by
    obtain ⟨b1, b2⟩ := hr.stays (heap_alloc_new' w _) hnf
    have h3 := (hr.drop hB1).cell hb0 (Nat.le_refl _) b2 (by omega) (by omega) 0 (.int .i64 0)
    exact ⟨by rw [cell_of b1]; rfl, frozen_of b1 0, h3, by rw [cell_of (heap_setCell_same b1 0 _)]; rfl⟩
  clear h h1 hB1 hld hh hs hld2
  generalize (lTake l key).length = m at *
  go_enter_defers Tryz.func16, Tryz.ntmps16
  go_wp2_with fail
  refine hT.mono ?_
  rintro e w3 ⟨F3, V3, rfl, hr3⟩
  obtain ⟨t3, hl3⟩ := HLD.out w3 F3 V3 hr3
  clear hT HLD hr3
  go_wp2_with fail
  go_loopw [8] (fun v wr => v = .int .i64 0 ∧ wr = w3) (fun _ _ => 0)
  case atStart => exact ⟨rfl, rfl⟩
  case round =>
    obtain ⟨rfl, rfl⟩ := hrel
    go_wp2_with fail
    refine hl3.mono ?_
    rintro e w5 ⟨F5, v5, rfl, hr5⟩
    obtain ⟨c5, f5, h6, c6⟩ := HE.out w5 F5 V3 hr5
    have H6 := Lib.hid h6
    clear hl3 HE hr5 h6
    go_wp2
    generalize w5.setCell ⟨w.heap.size, 0, none⟩ (.int .i64 0) = w6 at *
    refine leaves_cons (f := 27) (args := #[.pointer (some ⟨w.heap.size, 0, none⟩)]) (by simp) (by simp [go_sem]) ?_
    refine (settle_idle ⟨w.heap.size, 0, none⟩ _).mono ?_
    rintro e u' w'' ⟨rfl, rfl, rfl⟩
    have h7 := H6.out
    clear H6
    simp [Leaves, settle, results, Tryz.results16, go_sem, c6]
    exact ⟨F5, V3, h7⟩
end
end Go.Proofs.YtmgcaohpbaiiaaaGreatDoor
