/- clear of a map; the pager's Undo. -/
import Derived.Test.YtdoankamaobkoaaGreatDoorWrite
set_option linter.unusedSimpArgs false
set_option linter.unusedVariables false
namespace Go.Proofs.YtdoankamaobkoaaGreatDoor
open Go.RowKit Go.Maps Go.Shelf

theorem MapV.clear {w : World} {b : Nat} {l : List (Int × Value)} {t e : TypeId} (h : MapV w b l) (ht : Tryz.prog.underlying t = some (.map 3 e)) (ty : TypeId) :
    ∃ w', (Builtin.clear_ #[t] ty #[.map (some b)]).run Tryz.prog w = .ok (.tuple #[]) w' ∧ MapV w' b [] ∧ Turn w w' b := by
  obtain ⟨es, clock, hb⟩ := h.obj
  have hs := MapKept.heap_set (o' := .map #[] clock) hb
  refine ⟨ChangeMaps.setBlock w b (.map #[] clock), ?_, ⟨⟨#[], clock, hs.1, ⟨by simp, MapKept.stamped_empty _, by simp⟩, Nat.le_refl _, rfl⟩, by simp [Srt], by simp⟩, turn_of ⟨es, clock, #[], clock, hb, rfl⟩⟩
  simp [Builtin.clear_, run_underlying ht, MapKept.run_getObj_map hb, MapKept.run_setObj_map _ hb, Result.andThen, ChangeMaps.setBlock]
def Pgr.undo (S : Pgr) : Pgr := { S with changed := [] }
theorem undo_ok {S : Pgr} (h : S.Ok) : S.undo.Ok := { h with srtc := by simp [Srt, Pgr.undo], changed := by simp [Pgr.undo], apart := by simp [Pgr.undo, get] }

set_option maxHeartbeats 1000000 in
theorem undo_at {w : World} {p d : Nat} {F : Nat → Prop} {S : Pgr} (h : PAt w p d F S) :
    Calls Tryz.prog 62 #[.pointer (some ⟨p, 0, none⟩)] w fun e w' => e = .returned (.tuple #[]) ∧ Stp F w w' p d S.undo := by
  obtain ⟨L, rfl, rfl, hA, hF, hok⟩ := h
  have c3 := cell_of hA.p 3
  simp at c3
  obtain ⟨w1, hclr, hM1, hT1⟩ := hA.changed.clear Tryz.underlying108 0
  have H1 := hA.turnChanged (l' := []) hM1 hT1
  have HS : Hid (Stp F w w1 L.p L.d S.undo) := Stp.same hF H1 (fun b hb => hb) ((Upd.refl (L.fp S) w).turn hT1 (fun _ => .inr (.inr (.inr (.inr (.inl rfl)))))) (undo_ok hok)
  clear hM1 hT1 H1 hA hok
  go_enter Tryz.func62, Tryz.ntmps62
  go_wp2
  go_end0
  exact ⟨rfl, HS.out⟩
end Go.Proofs.YtdoankamaobkoaaGreatDoor
