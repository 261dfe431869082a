/- Commit, Undo and Image of a pager that lies in what was made; what PagerUndo asks of the plain pager. -/
import Derived.Test.YtdoankamaobkoaaGreatJ2
import Derived.Test.YtdoankamaobkoaaGreatImage
set_option linter.unusedSimpArgs false
set_option linter.unusedVariables false
namespace Go.Proofs.YtdoankamaobkoaaGreat
open Go.RowKit Go.Maps Go.Shelf

section
variable {w0 w : World} {p d : Nat} {F : Nat → Prop} {S : Pgr}
theorem image_in (h : PIn w0 w p d F S) :
    Calls Tryz.prog 14 #[.pointer (some ⟨d, 0, none⟩)] w fun e w' => ∃ G, e = .returned (.slice (some ⟨G, 0, none⟩) S.disk.blocks.length S.disk.blocks.length) ∧
      w'.heap[G]? = some (.cells (S.disk.blocks.map Value.string).toArray 9 (0, 0)) ∧ w.heap.size ≤ G ∧ PIn w0 w' p d F S ∧ Below w.heap.size w w' := by
  have h' := h
  obtain ⟨⟨L, rfl, rfl, hA, _, hok⟩, _, _⟩ := h
  exact (image_any hA.disk hok.blocks.2).mono fun _ _ ⟨G, he, hG, hs, hB⟩ => ⟨G, he, hG, hs, h'.made hB, hB⟩
end

/-- a pager whose disk has n blocks, is up, and lies as what is held -/
structure Und (S : Pgr) (D : Dsk) (N : Int) : Prop where
  ok : S.Ok
  clean : Clean S
  up : S.disk.Up
  disk : S.disk = D
  clock : S.clock ≤ N
  reads : S.reads ≤ N
theorem Und.store {S : Pgr} {D : Dsk} {N : Int} (h : Und S D N) (i : Int) (s : ByteArray) : Und (S.store i s).2 D N := by
  obtain ⟨h1, h2, h3, _⟩ := store_rest S i s
  exact ⟨store_ok h.ok i s, clean_store h.clean i s, by rw [h1]; exact h.up, by rw [h1]; exact h.disk, by rw [h2]; exact h.clock, by rw [h3]; exact h.reads⟩
theorem Und.undo {S : Pgr} {D : Dsk} {N : Int} (h : Und S D N) : Und S.undo D N := ⟨undo_ok h.ok, h.clean, h.up, h.disk, h.clock, h.reads⟩
theorem Und.commit {S : Pgr} {D : Dsk} {N : Int} (h : Und S D N) : S.commit.1 = 0 ∧ S.commit.2.changed = [] ∧ Und S.commit.2 (D.commit S.changed).2 (N + 1024) := by
  obtain ⟨c1, c2, c3, c4, c5, c6, c7, _⟩ := commit_clean h.ok h.up h.clean
  have h1 := h.clock
  have h2 := h.reads
  exact ⟨c1, c3, commit_ok h.ok, c2, c4, by rw [c5, h.disk], by omega, by omega⟩
theorem Und.load {S : Pgr} {D : Dsk} {N : Int} (h : Und S D N) (hc : S.changed = []) {i : Int} (hp : isPage D.n i = true) (hi : i < D.n) : (S.load i).1 = (D.blk i, 0) ∧ (S.load i).2.changed = [] ∧ Und (S.load i).2 D (N + 1) := by
  have hok := load_ok h.ok i
  have hm : S.may i = 0 := by unfold Pgr.may; rw [h.disk, if_pos hp]
  have hnn := (isPage_bd hp).1
  have hrd : S.disk.read i = (D.blk i, 0) := by
    unfold Dsk.read
    have : S.disk.may i = 0 := by unfold Dsk.may; rw [if_neg (by simp [h.up.down]), if_neg (by rw [h.disk]; omega)]
    rw [if_pos this, h.disk]
    rfl
  have hg : get i S.changed = none := by rw [hc]; rfl
  have e : S.load i = match get i S.held with | some y => ((y.data, 0), S.use i y) | none => ((D.blk i, 0), (S.read i).2.hold i (D.blk i)) := by
    unfold Pgr.load
    rw [if_neg (by simpa using hm), hg, hrd]
    rfl
  have hcl := h.clock
  have hrl := h.reads
  cases hy : get i S.held with
  | some y =>
    rw [hy] at e
    simp only at e
    have hd := h.clean _ (get_mem hy)
    simp only at hd
    rw [h.disk] at hd
    rw [e] at hok ⊢
    refine ⟨by rw [hd], hc, hok, ?_, h.up, h.disk, by simp [Pgr.use]; omega, by simp [Pgr.use]; omega⟩
    intro q hq
    simp only [Pgr.use] at hq ⊢
    rcases mem_ins hq with rfl | hq
    · simp only; rw [hd, h.disk]
    · exact h.clean q hq
  | none =>
    rw [hy] at e
    simp only at e
    obtain ⟨r1, r2, r3, r4, r5, r6⟩ := read_held S i
    obtain ⟨k1, k2, k3, k4, k5⟩ := hold_rest (S := (S.read i).2) i (D.blk i)
    rw [e] at hok ⊢
    simp only at hok ⊢
    refine ⟨trivial, by rw [k1, r2]; exact hc, hok, clean_hold ?_ (by rw [r4, h.disk]), by rw [k2, r4]; exact h.up, by rw [k2, r4]; exact h.disk, by omega, by omega⟩
    intro q hq
    rw [r1] at hq
    rw [r4]
    exact h.clean q hq
theorem und_new {n : Nat} {room : Int} (h1 : 64 ≤ n) (h2 : n ≤ 2048) (r1 : 1 ≤ room) (r2 : room ≤ 1024) : Und (newPgr (newDsk n) room) (newDsk n) 0 :=
  ⟨newPgr_ok r1 r2 (by simp [newDsk]; omega) (by simp [newDsk, zerosB_size]), by intro q hq; simp [newPgr] at hq, ⟨rfl, rfl⟩, rfl, Int.le_refl _, Int.le_refl _⟩
end Go.Proofs.YtdoankamaobkoaaGreat
