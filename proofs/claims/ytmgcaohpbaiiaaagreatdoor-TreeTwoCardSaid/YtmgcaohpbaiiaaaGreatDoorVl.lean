/- The plain law of TreeShape: the root has no only child; what is taken is the tree. -/
import Derived.Test.YtmgcaohpbaiiaaaGreatDoorVk
set_option linter.unusedSimpArgs false
set_option linter.unusedVariables false
namespace Go.Proofs.YtmgcaohpbaiiaaaGreatDoor
open Go.RowKit Go.Maps Go.Shelf
section
variable {f m root B : Nat} {S : TS} {l : List Ent} {P : List Nat}
theorem TreeL.top (h : TreeL f m S root l P B) : ∃ kind q, S.pg root = some (kind, q) ∧ ¬ (kind = 2 ∧ q.length = 1) := by
  obtain ⟨d, L, h1, rfl, rfl, h4⟩ := h
  refine ⟨_, _, h1.lay.pg, fun hc => ?_⟩
  cases d with
  | zero => exact absurd hc.1 (by decide)
  | succ d =>
    have h2 := h1.two (by omega)
    have : (enL (d + 1) L).length = L.length := by unfold enL; simp
    omega
theorem sub_len : ∀ {a b : List Nat}, a.Nodup → (∀ k ∈ a, k ∈ b) → a.length ≤ b.length
  | [], b, _, _ => Nat.zero_le _
  | x :: r, b, hn, hs => by
    obtain ⟨h1, h2⟩ := List.nodup_cons.1 hn
    have hx := hs x (by simp)
    have := sub_len (a := r) (b := b.erase x) h2 fun k hk => (List.mem_erase_of_ne (show k ≠ x from fun e => h1 (by rw [← e]; exact hk))).2 (hs k (by simp [hk]))
    rw [List.length_erase_of_mem hx] at this
    have := List.length_pos_of_mem hx
    simp only [List.length_cons]
    omega
theorem TreeL.mem_taken (h : TreeL f m S root l P B) (hc : cntM m S = P.length) (k : Nat) : k ∈ P ↔ okM f m S k = true := by
  refine ⟨h.nd.2.1 k, fun hk => ?_⟩
  by_cases hp : k ∈ P
  · exact hp
  · have h1 := sub_len (a := k :: P) (b := takenS f m S) (List.nodup_cons.2 ⟨hp, h.nd.1⟩) fun j hj => by
      rcases List.mem_cons.1 hj with rfl | hj
      · exact mem_takenS.2 hk
      · exact mem_takenS.2 (h.nd.2.1 j hj)
    rw [takenS_len, hc, List.length_cons] at h1
    omega
end
end Go.Proofs.YtmgcaohpbaiiaaaGreatDoor
