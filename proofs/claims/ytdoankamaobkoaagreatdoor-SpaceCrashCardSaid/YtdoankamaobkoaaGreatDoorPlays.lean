/- SpacePlays: the beginning. -/
import Derived.Test.YtdoankamaobkoaaGreatDoorReopen
set_option linter.unusedSimpArgs false
set_option linter.unusedVariables false
namespace Go.Proofs.YtdoankamaobkoaaGreatDoor
open Go.RowKit Go.Maps Go.Shelf

theorem rep_new (n : Int) : Rep (spSize n) (spV n) (newRf (spMany (spSize n))) := by
  have hs := spSize_bd n
  have hF := first_pos hs.1 (by omega : spSize n ≤ 2048)
  have hn := spName_size (spSize n)
  have e0 : spV n 0 = spName (spSize n) ++ zerosB (256 - (spName (spSize n)).size) := by
    unfold spV spLaid
    rw [upd_other _ (by omega), upd_same]; rfl
  have hz : (zerosB (256 - (spName (spSize n)).size)).size = 248 := by rw [zerosB_size]; omega
  have hf : ∀ j, (newRf (spMany (spSize n))).taken.getD j false = false := fun j => by
    show (List.replicate _ false).getD j false = false
    rw [List.getD_eq_getElem?_getD, List.getElem?_replicate]
    by_cases e : j < spMany (spSize n) <;> simp [e]
  refine ⟨?_, ?_, (map_new n).congr fun j _ => (hf j).symm, fun j _ ht => (by rw [hf j] at ht; cases ht), by simp [newRf], by simp [newRf]⟩
  · rw [e0, ByteArray.extract_append_eq_right (by omega) (by omega), hn]; rfl
  · rw [e0, ByteArray.extract_append_eq_left (by omega)]
theorem begin_dw (n room : Int) (hn : (Lit.int .i64 n).wf = true) (hr : (Lit.int .i64 room).wf = true) (w0 w : World) (hB0 : Below w0.heap.size w0 w) (hg : Glob w0) :
    Calls Tryz.prog 9 #[.int .i64 n, .int .i64 room] w fun e w' => ∃ W s d, e = .returned (.pointer (some ⟨W, 0, none⟩)) ∧ DwEx w0 w' W s d (spSize n) 5000 := by
  have hs := spSize_bd n
  refine (begin_any n room hn hr w0 w hB0 hg).mono ?_
  rintro e w' ⟨W, s, d, F, r1, r2, b1, b2, vp1, vt1, vp2, vt2, rfl, hW, hS, hF, hsb, h12, h2W, h0, hR1, hf1, hR2, hf2⟩
  have hWl := lt_of hW
  refine ⟨W, s, d, rfl, F, _, _, r1, b1, b2, _, r2, b2, W, _, ⟨hS, ⟨hW, fun hx => by have := hF _ hx; omega⟩, refIn hR1 hf1 ⟨hs.1, by omega⟩ (by simp [newRf]) (by simp [newRf]), refIn hR2 hf2 ⟨hs.1, by omega⟩ (by simp [newRf]) (by simp [newRf]),
    ⟨by omega, fun b h1 _ hb => by have := hF b hb; omega⟩, ⟨by omega, fun b h1 _ hb => by have := hF b hb; omega⟩, .inl (Nat.le_refl _), .inr h2W, .inr (Nat.le_refl _), .inl hsb, .inl (by omega), h0, by omega, by omega, by omega, fun b hb => by have := hF b hb; omega⟩, rep_new n, rep_new n⟩
end Go.Proofs.YtdoankamaobkoaaGreatDoor
