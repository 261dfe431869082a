/- pager.New, and what every statement on the pager asks ahead: wakes. -/
import Derived.Test.YtdoankamaobkoaaGreatDoorPin2
import Derived.Test.YtdoankamaobkoaaGreatDoorMake
import Derived.Carry
set_option linter.unusedSimpArgs false
set_option linter.unusedVariables false
namespace Go.Proofs.YtdoankamaobkoaaGreatDoor
open Go.RowKit Go.Maps Go.Shelf

def newPgr (D : Dsk) (room : Int) : Pgr := ⟨D, room, [], [], 0, 0⟩
theorem newPgr_ok {D : Dsk} {room : Int} (h1 : 1 ≤ room) (h2 : room ≤ 1024) (hb : 64 ≤ D.blocks.length ∧ D.blocks.length ≤ 2048) (hs : ∀ s ∈ D.blocks, s.size = 256) : (newPgr D room).Ok :=
  ⟨⟨h1, h2⟩, by simp [newPgr]; omega, List.Pairwise.nil, List.Pairwise.nil, by simp [newPgr], by simp [newPgr], by simp [newPgr], by simp [newPgr], hb, hs, Int.le_refl _, Int.le_refl _⟩

set_option maxRecDepth 100000 in
set_option maxHeartbeats 1000000 in
theorem pagerNew_ok {w : World} {d bb : Nat} {lg : Value} {D : Dsk} (h : DiskAt w d bb lg D) (room : Int) (h1 : 1 ≤ room) (h2 : room ≤ 1024) (hb : 64 ≤ D.blocks.length ∧ D.blocks.length ≤ 2048) (hs : ∀ s ∈ D.blocks, s.size = 256) :
    Calls Tryz.prog 47 #[.pointer (some ⟨d, 0, none⟩), .int .i64 room] w fun e w' => ∃ p, e = .returned (.tuple #[.pointer (some ⟨p, 0, none⟩), .int .i64 0]) ∧ w.heap.size ≤ p ∧
      PAt w' p d (fun b => (b = d ∨ b = bb ∨ lg.ownBlock = some b) ∨ (w.heap.size ≤ b ∧ b < w'.heap.size)) (newPgr D room) ∧ Below w.heap.size w w' := by
  have H := Lib.hid h
  have HOK := Lib.hid (newPgr_ok h1 h2 hb hs)
  clear h hb hs
  have hmm := @run_makeMap Tryz.prog
  go_enter Tryz.func47, Tryz.ntmps47
  go_wp2
  go_ret2
  have hd := lt_of H.out.d
  have hbb := lt_of H.out.bb
  refine ⟨_, rfl, by omega, ⟨⟨w.heap.size + 1 + 1, d, bb, w.heap.size, w.heap.size + 1, lg, fun _ => 0⟩, rfl, rfl, ⟨?_, ?_, ?_, ?_, ?_, ?_, ?_⟩, ?_, HOK.out⟩, ?_⟩
  · have := heap_alloc_new' ((w.alloc (.map #[] 0)).alloc (.map #[] 0)) (.cells #[.pointer (some ⟨d, 0, none⟩), .int .i64 room, .map (some w.heap.size), .map (some (w.heap.size + 1)), .int .i64 0, .int .i64 0] 110)
    rw [World.size_alloc, World.size_alloc] at this
    exact this
  · exact H.out.keep fun b _ _ _ hb _ _ => by
      have hl := lt_of hb
      rw [Below.heap_alloc _ _ _ (by simp; omega), Below.heap_alloc _ _ _ (by simp; omega), Below.heap_alloc _ _ _ hl]
  · exact (MapV.made w).congr (by rw [Below.heap_alloc _ _ _ (by simp; omega), Below.heap_alloc _ _ _ (by simp)])
  · have := MapV.made (w.alloc (.map #[] 0))
    rw [World.size_alloc] at this
    exact this.congr (by rw [Below.heap_alloc _ _ _ (by simp)])
  · simp [newPgr]
  · simp
  · simp [newPgr]
  · intro b hb
    simp only [World.size_alloc]
    rcases hb with h | h | h | h | h | h | ⟨q, hq, h⟩
    · simp only at h; exact .inr (by omega)
    · exact .inl (.inl h)
    · exact .inl (.inr (.inl h))
    · simp only at h; exact .inr (by omega)
    · simp only at h; exact .inr (by omega)
    · exact .inl (.inr (.inr h))
    · simp [newPgr] at hq
  · exact (((Below.refl _ w).alloc (Nat.le_refl _) _).alloc (by simp) _).alloc (by simp; omega) _
end Go.Proofs.YtdoankamaobkoaaGreatDoor
