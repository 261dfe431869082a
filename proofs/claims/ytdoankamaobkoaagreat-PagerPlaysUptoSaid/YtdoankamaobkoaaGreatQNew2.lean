/- The reference's new disk; the log's copy. -/
import Derived.Test.YtdoankamaobkoaaGreatQDoes
set_option linter.unusedSimpArgs false
set_option linter.unusedVariables false
namespace Go.Proofs.YtdoankamaobkoaaGreat
open Go.RowKit Go.Maps Go.Shelf

theorem QD.more {w : World} {q k base : Nat} {bv : Value} {z : ByteArray} (h : QD w q bv (.slice none 0 0) ⟨List.replicate k z, [], 0, false, false⟩) (hbv : ∀ b, bv.ownBlock = some b → base ≤ b) (hq : base ≤ q) (hk : k ≤ 10000) :
    ∃ ao co w3, w.cell? ⟨q, 0, none⟩ = some bv ∧ (Builtin.append_ #[37, 37] 37 #[bv, .slice (some ⟨w.heap.size, 0, none⟩) 1 1]).run Tryz.prog (w.alloc (.cells #[.string z] 9)) = .ok (.slice ao (k + 1) co) w3 ∧
      w3.cell? ⟨q, 0, none⟩ = some bv ∧ w3.frozen? ⟨q, 0, none⟩ = false ∧ QD (w3.setCell ⟨q, 0, none⟩ (.slice ao (k + 1) co)) q (.slice ao (k + 1) co) (.slice none 0 0) ⟨List.replicate (k + 1) z, [], 0, false, false⟩ ∧
      (∀ b, (Value.slice ao (k + 1) co).ownBlock = some b → base ≤ b ∨ w.heap.size ≤ b) ∧ (∀ w0, Below base w0 w → Below base w0 (w3.setCell ⟨q, 0, none⟩ (.slice ao (k + 1) co))) := by
  have hB1 : Below w.heap.size w (w.alloc (.cells #[.string z] 9)) := (Below.refl _ w).alloc (Nat.le_refl _) _
  have hb := h.blk
  simp only [List.length_replicate] at hb
  have hq0 := lt_of h.q
  obtain ⟨ao, co, w3, hr, ho, hg, hbl⟩ := many_append 9 37 _ 1 16 info_str Tryz.underlying37 rfl (by omega) (by omega) _ 0 bv k _ (ownsRow_made hb hB1) ⟨w.heap.size, 0, none⟩ 1 1 [.string z] rfl
    (fun j u hu => by
      rw [add_none, Nat.zero_add, cell_new]
      simpa using hu) (by simp [Value.oneCell']) (by omega) (Nat.zero_le _)
  have hne := h.blk_ne
  have hq3 : w3.heap[q]? = w.heap[q]? := (hg.block q (by simp; omega) (fun e => hne e.symm)).trans (hB1.block q hq0)
  have hnq : (Value.slice ao (k + 1) co).ownBlock ≠ some q := fun e => by
    rcases hbl with hbl | hbl
    · rw [hbl] at e; exact hne e
    · rw [hbl] at e; simp at e; omega
  have hq4 := hq3.trans h.q
  refine ⟨ao, co, w3, by rw [cell_of h.q]; rfl, hr, by rw [cell_of hq4]; rfl, frozen_of hq4 0, ⟨?_, ?_, World.ownsRow_nil _ _ _ _⟩, fun b hb' => ?_, fun w0 hB => ?_⟩
  · rw [heap_setCell_same hq4]; rfl
  · have e : (List.replicate k z).map Value.string ++ [Value.string z] = (List.replicate (k + 1) z).map Value.string := by rw [List.replicate_succ', List.map_append]; rfl
    rw [e] at ho
    simp only [List.length_replicate]
    exact ownsRow_setCell_other ho (by exact hnq) _
  · rcases hbl with hbl | hbl
    · rw [hbl] at hb'; exact .inl (hbv b hb')
    · rw [hbl] at hb'; simp at hb'; exact .inr (by omega)
  · exact (((hB.alloc (by omega) (.cells #[.string z] 9)).grown hg (by simp; omega) (fun j hj => hbv j hj)).setCell hq _)
set_option maxRecDepth 100000 in
set_option maxHeartbeats 4000000 in
theorem qnew_any (n : Nat) (w : World) (h1 : 64 ≤ n) (h2 : n ≤ 2048) :
    Calls Tryz.prog 23 #[.int .i64 n] w fun e w' => ∃ q bv, e = .returned (.pointer (some ⟨q, 0, none⟩)) ∧ QD w' q bv (.slice none 0 0) (newDsk n) ∧ w.heap.size ≤ q ∧ (∀ b, bv.ownBlock = some b → w.heap.size ≤ b) ∧ Below w.heap.size w w' := by
  have HZ := Lib.hid (fun W => zeros_any 256 W (by omega))
  have HN : Hid (newDsk n = ⟨List.replicate n (zerosB 256), [], 0, false, false⟩) := rfl
  rw [HN.out]
  generalize zerosB 256 = z at *
  clear HN
  have hn64 : decide ((n : Int) < 64) = false := by simp; omega
  have hn2k : decide (2048 < (n : Int)) = false := by simp; omega
  go_enter Tryz.func23, Tryz.ntmps23
  go_wp2_with fail
  refine (HZ.out _).mono ?_
  rintro e w1 ⟨rfl, hB1⟩
  have hD0 : QD w1 w.heap.size (.slice none 0 0) (.slice none 0 0) ⟨List.replicate 0 z, [], 0, false, false⟩ :=
    ⟨(hB1.block w.heap.size (by simp)).trans (heap_alloc_new' w _), World.ownsRow_nil _ _ _ _, World.ownsRow_nil _ _ _ _⟩
  have HD0 := Lib.hid hD0
  have HBW : Hid (Below w.heap.size w w1) := ((Below.refl _ w).alloc (Nat.le_refl _) _).trans (hB1.mono (by simp))
  clear hB1 hD0 HZ
  go_wp2
  go_loopw [5] (fun v wr => ∃ (k : Nat) (bv : Value), v = .int .i64 k ∧ k ≤ n ∧ Hid (QD wr w.heap.size bv (.slice none 0 0) ⟨List.replicate k z, [], 0, false, false⟩) ∧ Hid (∀ b, bv.ownBlock = some b → w.heap.size ≤ b) ∧ Below w.heap.size w wr) (fun v _ => n - (intOf v).toNat)
  case atStart => exact ⟨0, _, rfl, by omega, HD0, fun b hb => by simp [Value.ownBlock] at hb, HBW.out⟩
  case round =>
    obtain ⟨k, bv, rfl, hk, HD, HV, hB⟩ := hrel
    clear HD0 HBW
    by_cases hlt : k < n
    · obtain ⟨ao, co, w3, c0, hr, d0, f0, hD3, hV3, hB3⟩ := HD.out.more HV.out (Nat.le_refl _) (by omega)
      have HR := Lib.hid hr
      have HD3 := Lib.hid hD3
      have HV3 : Hid (∀ b, (Value.slice ao (k + 1) co).ownBlock = some b → w.heap.size ≤ b) := fun b hb => by
        rcases hV3 b hb with h | h
        · exact h
        · have := hB.size; omega
      have HB3 := Lib.hid (hB3 w hB)
      clear hr hD3 hV3 hB3 HD HV
      go_wp2_with (at_builtin; refine wpList_append_run HR.out rfl rfl rfl rfl rfl ?_)
      go_roundw
      case rel => exact ⟨k + 1, _, by go_num, by omega, HD3, HV3, HB3.out⟩
      case measure => simp [intOf]; omega
    · obtain rfl : k = n := by omega
      go_wp2
      go_ret
      exact ⟨_, bv, rfl, HD.out, Nat.le_refl _, HV.out, hB⟩
end Go.Proofs.YtdoankamaobkoaaGreat
