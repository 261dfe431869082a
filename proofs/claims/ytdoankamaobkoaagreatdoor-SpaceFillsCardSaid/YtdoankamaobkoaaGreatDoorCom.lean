/- Commit and Undo of a pager that lies in what was made. -/
import Derived.Test.YtdoankamaobkoaaGreatDoorClean
set_option linter.unusedSimpArgs false
set_option linter.unusedVariables false
namespace Go.Proofs.YtdoankamaobkoaaGreatDoor
open Go.RowKit Go.Maps Go.Shelf

section
variable {w0 w : World} {p d : Nat} {F : Nat → Prop} {S : Pgr}
theorem commit_in (h : PIn w0 w p d F S) (hleft : S.disk.told = true → 0 ≤ S.disk.left ∧ S.disk.left < 9223372036854775808) (hlog : S.disk.log.length < 999999000000) (hc : S.clock < 4611686018427300000) :
    Calls Tryz.prog 42 #[.pointer (some ⟨p, 0, none⟩)] w fun e w' => e = .returned (.int .i64 S.commit.1) ∧ PIn w0 w' p d (ext F w w') S.commit.2 ∧ Upd F w w' :=
  (commit_at h.pat hleft hlog hc).mono fun _ _ ⟨he, hs⟩ => ⟨he, h.stp hs, hs.upd⟩
theorem undo_in (h : PIn w0 w p d F S) :
    Calls Tryz.prog 62 #[.pointer (some ⟨p, 0, none⟩)] w fun e w' => e = .returned (.tuple #[]) ∧ PIn w0 w' p d (ext F w w') S.undo ∧ Upd F w w' :=
  (undo_at h.pat).mono fun _ _ ⟨he, hs⟩ => ⟨he, h.stp hs, hs.upd⟩
end
theorem store_rest (S : Pgr) (i : Int) (s : ByteArray) : (S.store i s).2.disk = S.disk ∧ (S.store i s).2.clock = S.clock ∧ (S.store i s).2.reads = S.reads ∧ (S.store i s).2.room = S.room := by
  unfold Pgr.store
  split
  · simp
  · split
    · simp
    · split
      · split <;> simp
      · simp
theorem commit_none {D : Dsk} (h1 : 64 ≤ D.n) (h2 : D.n ≤ 2048) : D.commit [] = (0, D) := by
  have hpos := jPages_pos h1 h2
  have : jMay D.n [] = 0 := by unfold jMay; rw [if_neg (by simp; omega)]; rfl
  unfold Dsk.commit
  rw [if_neg (by omega), if_pos rfl]
theorem commit_log (D : Dsk) (l : Pgs) : (D.commit l).2.log.length ≤ D.log.length + 3 * l.length + 3 := by
  unfold Dsk.commit
  split
  · simp; omega
  · split
    · simp; omega
    · have h1 := Dsk.writes_log (allL D.n l) D
      have h2 := allL_length D.n l
      omega
end Go.Proofs.YtdoankamaobkoaaGreatDoor
