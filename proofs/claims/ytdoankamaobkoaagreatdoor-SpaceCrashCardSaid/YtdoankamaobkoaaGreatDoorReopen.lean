/- A space that is opened anew shows what lies on the disk; does, whatever the act. -/
import Derived.Test.YtdoankamaobkoaaGreatDoorDoes2
set_option linter.unusedSimpArgs false
set_option linter.unusedVariables false
namespace Go.Proofs.YtdoankamaobkoaaGreatDoor
open Go.RowKit Go.Maps Go.Shelf

theorem rep_congr {z : Int} {V V' : Int → ByteArray} {R : Rf} (h : Rep z V R) (h1 : 64 ≤ z) (h2 : z ≤ 2048) (he : ∀ i, isPage z i = true → V' i = V i) : Rep z V' R := by
  obtain ⟨m1, m2, m3⟩ := spMany_bd h1 h2
  have e0 := he 0 (page_zero z)
  have e1 := he (jFirst z) (page_in (Int.le_refl _) (by omega))
  refine ⟨by rw [e0]; exact h.top, by rw [e0]; exact h.name, ⟨fun j hj => by rw [e1]; exact h.map.bits j hj⟩, fun j hj hjt => ?_, h.np, h.nt⟩
  rw [he _ (page_in (by omega) (by omega))]
  exact h.page j hj hjt
theorem reopen {w0 w : World} {s d : Nat} {F : Nat → Prop} {z N : Int} {V D : Int → ByteArray} {R : Rf} (h : SIn w0 w s d F z V D N) (hr : Rep z D R) (hN : N < 800000000000) :
    Calls Tryz.prog 19 #[.pointer (some ⟨d, 0, none⟩), .int .i64 1] w fun e w' => ∃ s' F' V', e = .returned (.tuple #[.pointer (some ⟨s', 0, none⟩), .int .i64 0]) ∧ SIn w0 w' s' d F' z V' V' (N + 5000) ∧ Rep z V' R ∧ Upd F w w' ∧ (∀ b, F' b → F b ∨ w.heap.size ≤ b) := by
  have hbd := h.bd
  have hB := h.below
  have hg := h.glob
  obtain ⟨p, S, hP, hS, hc⟩ := h.ex
  obtain ⟨L, rfl, rfl, hA, hfp, hok⟩ := hP.pat
  have hn : S.disk.n = z := hS.sees.n
  have hin : ∀ b, b = L.d ∨ b = L.bb ∨ L.lg.ownBlock = some b → F b := fun b hb => by
    refine hfp b ?_
    rcases hb with hb | hb | hb
    · exact .inr (.inl hb)
    · exact .inr (.inr (.inl hb))
    · exact .inr (.inr (.inr (.inr (.inr (.inl hb)))))
  have hrep : Rep z S.disk.blk R := rep_congr hr hbd.1 hbd.2 hS.disk
  have ho : spOpened S.disk = S.disk.blk := by unfold spOpened; rw [hn, if_pos hrep.name]
  refine (open_sp hB hg hA.disk (fun b hb => hP.new b (hin b hb)) (by omega : (1 : Int) ≤ 1) (by omega) (by rw [hn]; exact hbd) hok.sizes hS.sees.up hS.jour hS.sees.log hN).mono ?_
  rintro e w' ⟨s', F', rfl, hI, hU, hF'⟩
  rw [ho, hn] at hI
  exact ⟨s', F', _, rfl, hI, hrep, hU.mono (fun b _ hb => hin b hb), fun b hb => (hF' b hb).imp (hin b) id⟩
theorem does_any {w0 w : World} {W s d : Nat} {z N : Int} (h : DwEx w0 w W s d z N) (k a : Int) (tx : ByteArray) (hkw : (Lit.int .i64 k).wf = true) (htx : tx.size ≤ 140737488355328) (hN : N < 100000000000) :
    Calls Tryz.prog 23 #[.pointer (some ⟨W, 0, none⟩), actV k a tx] w fun e w' => e = .returned (.bool true) ∧ DwEx w0 w' W s d z (N + 9000) := by
  obtain ⟨F, V, D, r1, lo1, hi1, R1, r2, lo2, hi2, R2, hD, hp1, hp2⟩ := h
  have hb := kindI_bd (k := k) (n := 10) (by omega)
  have hc : kindI k 10 = 0 ∨ kindI k 10 = 1 ∨ kindI k 10 = 2 ∨ kindI k 10 = 3 ∨ kindI k 10 = 4 ∨ kindI k 10 = 5 ∨ kindI k 10 = 6 ∨ kindI k 10 = 7 ∨ kindI k 10 = 8 ∨ kindI k 10 = 9 := by omega
  rcases hc with hk | hk | hk | hk | hk | hk | hk | hk | hk | hk
  · exact does_0 hD hp1 hp2 k a tx hkw htx hk hN
  · exact does_1 hD hp1 hp2 k a tx hkw htx hk hN
  · exact does_2 hD hp1 hp2 k a tx hkw htx hk hN
  · exact does_3 hD hp1 hp2 k a tx hkw htx hk hN
  · exact does_4 hD hp1 hp2 k a tx hkw htx hk hN
  · exact does_5 hD hp1 hp2 k a tx hkw htx hk hN
  · exact does_6 hD hp1 hp2 k a tx hkw htx hk hN
  · exact does_7 hD hp1 hp2 k a tx hkw htx hk hN
  · exact does_8 hD hp1 hp2 k a tx hkw htx hk hN
  · exact does_9 hD hp1 hp2 k a tx hkw htx hk hN
end Go.Proofs.YtdoankamaobkoaaGreatDoor
