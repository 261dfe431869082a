/- The pager of a space, as plain data: what its pages show (V), what lies on the disk (D). -/
import Derived.Test.YtdoankamaobkoaaGreatDoorView
set_option linter.unusedSimpArgs false
set_option linter.unusedVariables false
namespace Go.Proofs.YtdoankamaobkoaaGreatDoor
open Go.RowKit Go.Maps Go.Shelf

/-- what a page shows: what was stored last, or else what lies on the disk -/
def Pgr.view (S : Pgr) (i : Int) : ByteArray := (get i S.changed).getD (S.disk.blk i)
/-- a page turned -/
def upd (V : Int → ByteArray) (i : Int) (s : ByteArray) : Int → ByteArray := fun k => if k = i then s else V k
theorem upd_same (V : Int → ByteArray) (i : Int) (s : ByteArray) : upd V i s i = s := by simp [upd]
theorem upd_other (V : Int → ByteArray) {i k : Int} (h : k ≠ i) (s : ByteArray) : upd V i s k = V k := by simp [upd, h]

theorem page_lt {n i : Int} (h1 : 64 ≤ n) (h2 : n ≤ 2048) (h : isPage n i = true) : 0 ≤ i ∧ i < n := by
  have hb := (isPage_bd h).1
  refine ⟨hb, ?_⟩
  have hp := jPages_pos h1 h2
  have hf := jPages_spec h1 h2
  unfold isPage jFirst at h
  rw [if_neg (by omega)] at h
  simp only [Bool.or_eq_true, Bool.and_eq_true, decide_eq_true_eq] at h
  rcases h with rfl | ⟨_, h⟩
  · omega
  · omega

/-- the pager of a space: the power is on, no pins, no told cut; V is what the pages show, D what lies on the disk; counts within N -/
structure Sp (S : Pgr) (n : Int) (V D : Int → ByteArray) (N : Int) : Prop where
  ok : S.Ok
  sees : Sees S n S.room 0 N
  view : ∀ i, isPage n i = true → S.view i = V i
  disk : ∀ i, isPage n i = true → S.disk.blk i = D i
  jour : S.disk.blk 1 = fill ⟨#[]⟩

/-- what a Commit writes lies on the disk, in whole blocks -/
theorem commit_all {S : Pgr} (hok : S.Ok) : ∀ q ∈ allL S.disk.n S.changed, 0 ≤ q.1 ∧ q.1 < S.disk.n ∧ q.2.size = 256 := by
  have hbl := hok.blocks
  have h1 : 64 ≤ S.disk.n := by unfold Dsk.n; omega
  have h2 : S.disk.n ≤ 2048 := by unfold Dsk.n; omega
  have hm := changed_may hok
  have hlow := allL_low h1 h2 (jMay_ok hm).1
  have hsz := allL_sizes S.disk.n (fun q hq => (hok.changed q hq).2)
  have hsplit : allL S.disk.n S.changed = (copiesL S.disk.n S.changed ++ (rowsL S.changed ++ [(1, jTop S.changed)])) ++ (S.changed ++ [(1, fill ⟨#[]⟩)]) := by simp [allL, homeL]
  intro q hq
  have hs := hsz q hq
  rw [hsplit] at hq
  rcases List.mem_append.1 hq with h | h
  · have := hlow q h; exact ⟨by omega, this.2.2, hs⟩
  · rcases List.mem_append.1 h with h | h
    · have := page_lt h1 h2 (hok.changed q h).1; exact ⟨this.1, this.2, hs⟩
    · simp at h; subst h; exact ⟨by simp, by simp; omega, hs⟩
theorem commit_jour {S : Pgr} (hok : S.Ok) (hup : S.disk.Up) (hj : S.disk.blk 1 = fill ⟨#[]⟩) : (S.disk.commit S.changed).2.blk 1 = fill ⟨#[]⟩ := by
  have hm := changed_may hok
  by_cases hz : S.changed = []
  · have e : S.disk.commit S.changed = (0, S.disk) := by unfold Dsk.commit; rw [if_neg (by omega), if_pos hz]
    rw [e]; exact hj
  · have e : S.disk.commit S.changed = S.disk.writes (allL S.disk.n S.changed) := by unfold Dsk.commit; rw [if_neg (by omega), if_neg hz]
    rw [e]
    obtain ⟨_, _, _, i4⟩ := Dsk.writes_up (allL S.disk.n S.changed) hup (commit_all hok)
    exact i4 (copiesL S.disk.n S.changed ++ (rowsL S.changed ++ ((1, jTop S.changed) :: S.changed))) (1, fill ⟨#[]⟩) [] (by simp [allL, homeL]) (by simp)

section
variable {S : Pgr} {n N : Int} {V D : Int → ByteArray} {i : Int}
theorem Sp.bd (h : Sp S n V D N) : 64 ≤ n ∧ n ≤ 2048 := by
  have h1 := h.ok.blocks
  have h2 := h.sees.n
  unfold Dsk.n at h2
  omega
theorem Sp.mono {M : Int} (h : Sp S n V D N) (hle : N ≤ M) : Sp S n V D M := ⟨h.ok, h.sees.mono hle, h.view, h.disk, h.jour⟩
theorem load_room (S : Pgr) (i : Int) : (S.load i).2.room = S.room := by
  unfold Pgr.load
  split
  · rfl
  · split
    · rfl
    · split
      · rfl
      · split
        · rfl
        · exact ((hold_rest (S := (S.read i).2) i (S.disk.read i).1).2.2.1).trans (read_held S i).2.2.2.2.1
theorem Sp.load (h : Sp S n V D N) (hp : isPage n i = true) : (S.load i).1 = (V i, 0) ∧ Sp (S.load i).2 n V D (N + 2) := by
  obtain ⟨b1, b2⟩ := page_lt h.bd.1 h.bd.2 hp
  obtain ⟨l1, l2, l3, l4⟩ := h.sees.load (Int.le_refl 0) hp b1 b2
  have hv : ∀ k, (S.load i).2.view k = S.view k := fun k => by unfold Pgr.view; rw [l2, l3]
  refine ⟨by rw [l1, ← h.view i hp]; rfl, load_ok h.ok i, by rw [load_room]; exact l4, fun k hk => by rw [hv]; exact h.view k hk, fun k hk => by rw [l3]; exact h.disk k hk, by rw [l3]; exact h.jour⟩
theorem Sp.store (h : Sp S n V D N) (hp : isPage n i = true) {s : ByteArray} (hs : s.size = 256) : (S.store i s).1 = 0 ∧ Sp (S.store i s).2 n (upd V i s) D N := by
  have hm := h.sees.may hp
  have hst := h.sees.store (i := i) s
  obtain ⟨r1, r2, r3, r4⟩ := store_rest S i s
  have e : S.store i s = (0, { S with held := del i S.held, changed := ins i s S.changed }) := by
    unfold Pgr.store
    rw [if_neg (by simpa using hm), if_neg (by simpa using hs)]
    cases hx : get i S.held with
    | none => rfl
    | some x =>
      have := h.sees.pins _ (get_mem hx)
      simp only at this ⊢
      rw [if_neg (by omega)]
  refine ⟨by rw [e], store_ok h.ok i s, by rw [r4]; exact hst, fun k hk => ?_, fun k hk => by rw [r1]; exact h.disk k hk, by rw [r1]; exact h.jour⟩
  have hv := h.view k hk
  unfold Pgr.view at hv ⊢
  rw [e]
  by_cases hki : k = i
  · subst hki; simp only [upd_same, get_ins_same]; rfl
  · rw [upd_other _ hki]; simp only [get_ins_other hki]; exact hv
theorem Sp.undo (h : Sp S n V D N) : Sp S.undo n D D N :=
  ⟨undo_ok h.ok, ⟨h.sees.clean, h.sees.up, h.sees.n, rfl, h.sees.clock, h.sees.reads, h.sees.pins, h.sees.log⟩, fun k hk => h.disk k hk, h.disk, h.jour⟩
theorem Sp.commit (h : Sp S n V D N) : S.commit.1 = 0 ∧ Sp S.commit.2 n V V (N + 4000) := by
  obtain ⟨c1, c2, c3⟩ := h.sees.commit h.ok (Int.le_refl 0)
  obtain ⟨e1, e2, e3, e4, e5, e6, e7, e8⟩ := commit_clean h.ok h.sees.up h.sees.clean
  obtain ⟨u1, u2, u3⟩ := commit_up h.ok h.sees.up
  have hd : ∀ k, isPage n k = true → S.commit.2.disk.blk k = V k := fun k hk => by
    rw [e5, u3 k (by rw [h.sees.n]; exact hk), ← h.view k hk]; rfl
  refine ⟨c1, commit_ok h.ok, by rw [e8]; exact c3, fun k hk => ?_, hd, by rw [e5]; exact commit_jour h.ok h.sees.up h.jour⟩
  rw [← hd k hk]
  unfold Pgr.view
  rw [c2]; rfl
end
end Go.Proofs.YtdoankamaobkoaaGreatDoor
