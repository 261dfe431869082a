/- A pager whose held pages are as they lie on the disk; and what a Commit writes, where no cut is told. -/
import Derived.Test.YtdoankamaobkoaaGreatDoorPCommit
set_option linter.unusedSimpArgs false
set_option linter.unusedVariables false
namespace Go.Proofs.YtdoankamaobkoaaGreatDoor
open Go.RowKit Go.Maps Go.Shelf

def Dsk.blk (S : Dsk) (i : Int) : ByteArray := S.blocks.getD i.toNat ⟨#[]⟩
/-- no cut is told, and the power is on -/
structure Dsk.Up (S : Dsk) : Prop where
  told : S.told = false
  down : S.down = false
theorem Dsk.write_up {S : Dsk} (h : S.Up) {i : Int} {s : ByteArray} (h0 : 0 ≤ i) (h1 : i < S.n) (hs : s.size = 256) :
    (S.write i s).1 = 0 ∧ (S.write i s).2.Up ∧ (∀ k, 0 ≤ k → k ≠ i → (S.write i s).2.blk k = S.blk k) ∧ (S.write i s).2.blk i = s := by
  have hm : S.may i = 0 := by unfold Dsk.may; rw [if_neg (by simp [h.down]), if_neg (by omega)]
  have e : S.write i s = (0, { S with left := if S.told then S.left - 1 else S.left, blocks := S.blocks.set i.toNat s, log := S.log ++ [(i, s)] }) := by
    unfold Dsk.write
    rw [if_neg (by omega), if_neg (by omega), if_neg (by rw [h.told]; simp)]
  rw [e]
  unfold Dsk.n at h1
  refine ⟨rfl, ⟨h.told, h.down⟩, fun k hk hne => ?_, ?_⟩
  · unfold Dsk.blk
    simp only [List.getD_eq_getElem?_getD]
    rw [List.getElem?_set_ne (by omega)]
  · unfold Dsk.blk
    simp only [List.getD_eq_getElem?_getD]
    rw [List.getElem?_set_self (by omega)]
    rfl
theorem Dsk.writes_up : ∀ (l : Pgs) {S : Dsk}, S.Up → (∀ q ∈ l, 0 ≤ q.1 ∧ q.1 < S.n ∧ q.2.size = 256) →
    (S.writes l).1 = 0 ∧ (S.writes l).2.Up ∧ (∀ k, 0 ≤ k → (∀ q ∈ l, q.1 ≠ k) → (S.writes l).2.blk k = S.blk k) ∧
    (∀ l1 q l2, l = l1 ++ q :: l2 → (∀ x ∈ l2, x.1 ≠ q.1) → (S.writes l).2.blk q.1 = q.2)
  | [], S, h, _ => ⟨rfl, h, fun _ _ _ => rfl, fun l1 q l2 e => by simp at e⟩
  | p :: r, S, h, hq => by
    obtain ⟨a1, a2, a3⟩ := hq p (by simp)
    obtain ⟨w1, w2, w3, w4⟩ := S.write_up h a1 a2 a3
    have hn : (S.write p.1 p.2).2.n = S.n := by unfold Dsk.n; rw [(S.write_good p.1 p.2).len]
    obtain ⟨i1, i2, i3, i4⟩ := Dsk.writes_up r w2 (fun q hqr => by rw [hn]; exact hq q (by simp [hqr]))
    have e : S.writes (p :: r) = (S.write p.1 p.2).2.writes r := by simp only [Dsk.writes]; rw [if_neg (by omega)]
    rw [e]
    refine ⟨i1, i2, fun k hk hne => ?_, fun l1 q l2 hl hlt => ?_⟩
    · rw [i3 k hk (fun q hqr => hne q (by simp [hqr])), w3 k hk (fun e => hne p (by simp) e.symm)]
    · cases l1 with
      | nil =>
        simp only [List.nil_append, List.cons.injEq] at hl
        obtain ⟨rfl, rfl⟩ := hl
        rw [i3 p.1 a1 hlt, w4]
      | cons x l1 =>
        simp only [List.cons_append, List.cons.injEq] at hl
        exact i4 l1 q l2 hl.2 hlt

theorem allL_low {n : Int} (h1 : 64 ≤ n) (h2 : n ≤ 2048) {l : Pgs} (hl : (l.length : Int) ≤ jPages n) : ∀ q ∈ copiesL n l ++ (rowsL l ++ [(1, jTop l)]), 1 ≤ q.1 ∧ q.1 < jFirst n ∧ q.1 < n := by
  have hpos := jPages_pos h1 h2
  have hsp := jPages_spec h1 h2
  have hF : jFirst n = 2 + jBlocks (jPages n) + jPages n := by unfold jFirst; rw [if_neg (by omega)]
  have hb : 0 ≤ jBlocks (jPages n) := (jBlocks_le (by omega)).1
  have hrows : (((jList l).length : Nat) : Int) ≤ jBlocks (jPages n) := by
    rw [jList_length]; unfold jBlocks; omega
  intro q hq
  simp only [copiesL, rowsL, List.mem_append, List.mem_map, List.mem_range, List.mem_singleton, jCopies] at hq
  rcases hq with ⟨i, hi, rfl⟩ | ⟨i, hi, rfl⟩ | rfl
  · simp only; omega
  · simp only; omega
  · simp only; omega

/-- a Commit where no cut is told -/
theorem commit_up {S : Pgr} (hok : S.Ok) (hup : S.disk.Up) :
    (S.disk.commit S.changed).1 = 0 ∧ (S.disk.commit S.changed).2.Up ∧ ∀ k, isPage S.disk.n k = true → (S.disk.commit S.changed).2.blk k = (get k S.changed).getD (S.disk.blk k) := by
  have hbl := hok.blocks
  have h1 : 64 ≤ S.disk.n := by unfold Dsk.n; omega
  have h2 : S.disk.n ≤ 2048 := by unfold Dsk.n; omega
  have hm := changed_may hok
  by_cases hz : S.changed = []
  · have e : S.disk.commit S.changed = (0, S.disk) := by unfold Dsk.commit; rw [if_neg (by omega), if_pos hz]
    rw [e, hz]
    exact ⟨rfl, hup, fun k _ => rfl⟩
  · have e : S.disk.commit S.changed = S.disk.writes (allL S.disk.n S.changed) := by unfold Dsk.commit; rw [if_neg (by omega), if_neg hz]
    rw [e]
    have hpos := jPages_pos h1 h2
    have hlast := jLast_le h1 h2
    have hsp := jPages_spec h1 h2
    have hF : jFirst S.disk.n = 2 + jBlocks (jPages S.disk.n) + jPages S.disk.n := by unfold jFirst; rw [if_neg (by omega)]
    have hb : 0 ≤ jBlocks (jPages S.disk.n) := (jBlocks_le (by omega)).1
    have hlow := allL_low h1 h2 (jMay_ok hm).1
    have hsz := allL_sizes S.disk.n (fun q hq => (hok.changed q hq).2)
    have hsplit : allL S.disk.n S.changed = (copiesL S.disk.n S.changed ++ (rowsL S.changed ++ [(1, jTop S.changed)])) ++ (S.changed ++ [(1, fill ⟨#[]⟩)]) := by simp [allL, homeL]
    have hpg : ∀ q ∈ S.changed, 0 ≤ q.1 ∧ q.1 < S.disk.n := fun q hq => by
      have := (hok.changed q hq).1
      simp [isPage] at this
      omega
    obtain ⟨i1, i2, i3, i4⟩ := Dsk.writes_up (allL S.disk.n S.changed) hup (fun q hq => by
      refine ⟨?_, ?_, hsz q hq⟩
      · rw [hsplit] at hq
        rcases List.mem_append.1 hq with h | h
        · have := hlow q h; omega
        · rcases List.mem_append.1 h with h | h
          · exact (hpg q h).1
          · simp at h; subst h; simp
      · rw [hsplit] at hq
        rcases List.mem_append.1 hq with h | h
        · exact (hlow q h).2.2
        · rcases List.mem_append.1 h with h | h
          · exact (hpg q h).2
          · simp at h; subst h; simp; omega)
    refine ⟨i1, i2, fun k hk => ?_⟩
    have hk1 : k = 0 ∨ jFirst S.disk.n ≤ k := by simp [isPage] at hk; omega
    have hknn : 0 ≤ k := (isPage_bd hk).1
    cases hg : get k S.changed with
    | none =>
      simp only [Option.getD_none]
      refine i3 k hknn (fun q hq => ?_)
      rw [hsplit] at hq
      rcases List.mem_append.1 hq with h | h
      · have := hlow q h; omega
      · rcases List.mem_append.1 h with h | h
        · exact get_none hg q h
        · simp at h; subst h; simp; omega
    | some s =>
      simp only [Option.getD_some]
      obtain ⟨a, b, hab⟩ := List.append_of_mem (get_mem hg)
      refine i4 ((copiesL S.disk.n S.changed ++ (rowsL S.changed ++ [(1, jTop S.changed)])) ++ a) (k, s) (b ++ [(1, fill ⟨#[]⟩)]) ?_ (fun x hx => ?_)
      · rw [hsplit]
        have : S.changed ++ [((1 : Int), fill ⟨#[]⟩)] = a ++ (k, s) :: (b ++ [(1, fill ⟨#[]⟩)]) := by
          conv => lhs; rw [hab]
          simp
        rw [this]
        simp
      · rcases List.mem_append.1 hx with h | h
        · have hs := hok.srtc
          rw [hab] at hs
          have := (List.pairwise_append.1 hs).2.1
          have := (List.pairwise_cons.1 this).1 x h
          simp at this ⊢
          omega
        · simp at h; subst h; simp; omega

/-- what is held is as it lies on the disk -/
def Clean (S : Pgr) : Prop := ∀ q ∈ S.held, q.2.data = S.disk.blk q.1
theorem clean_hold {S : Pgr} (h : Clean S) {i : Int} {s : ByteArray} (hs : s = S.disk.blk i) : Clean (S.hold i s) := by
  unfold Pgr.hold
  split
  · split
    · exact h
    · intro q hq
      rcases mem_ins hq with rfl | hq
      · exact hs
      · exact h q (List.mem_filter.1 hq).1
  · intro q hq
    rcases mem_ins hq with rfl | hq
    · exact hs
    · exact h q hq
theorem clean_holds : ∀ (l : Pgs) {S : Pgr}, Clean S → (∀ q ∈ l, q.2 = S.disk.blk q.1) → Clean (S.holds l)
  | [], S, h, _ => h
  | p :: r, S, h, hq => clean_holds r (clean_hold h (hq p (by simp))) (fun q hqr => by rw [(hold_rest p.1 p.2).2.1]; exact hq q (by simp [hqr]))
theorem clean_store {S : Pgr} (h : Clean S) (i : Int) (s : ByteArray) : Clean (S.store i s).2 := by
  unfold Pgr.store
  split
  · exact h
  · split
    · exact h
    · split
      · split
        · exact h
        · exact fun q hq => h q (List.mem_filter.1 hq).1
      · exact fun q hq => h q (List.mem_filter.1 hq).1
theorem changed_apart {S : Pgr} (hok : S.Ok) {q : Int × ByteArray} (hq : q ∈ S.changed) : get q.1 S.held = none := by
  cases hgt : get q.1 S.held with
  | none => rfl
  | some x =>
    have := hok.apart _ (get_mem hgt)
    simp only at this
    rw [mem_get hok.srtc (show (q.1, q.2) ∈ S.changed from hq)] at this
    cases this
theorem commit_clean {S : Pgr} (hok : S.Ok) (hup : S.disk.Up) (h : Clean S) :
    S.commit.1 = 0 ∧ Clean S.commit.2 ∧ S.commit.2.changed = [] ∧ S.commit.2.disk.Up ∧ S.commit.2.disk = (S.disk.commit S.changed).2 ∧ S.commit.2.clock ≤ S.clock + 1024 ∧ S.commit.2.reads = S.reads ∧ S.commit.2.room = S.room := by
  obtain ⟨c1, c2, c3⟩ := commit_up hok hup
  have e : S.commit = (0, (S.emptied (S.disk.commit S.changed).2).holds S.changed) := by unfold Pgr.commit; rw [if_neg (by omega)]
  rw [e]
  have hgood := S.disk.commit_good S.changed
  have hn : (S.disk.commit S.changed).2.n = S.disk.n := by unfold Dsk.n; rw [hgood.len]
  have hemp : Clean (S.emptied (S.disk.commit S.changed).2) := by
    intro q hq
    show q.2.data = (S.disk.commit S.changed).2.blk q.1
    rw [c3 q.1 (hok.held q hq).1, hok.apart q hq]
    exact h q hq
  have hr := holds_ok S.changed (S.emptied (S.disk.commit S.changed).2) (emptied_ok hok hgood) hok.srtc rfl (fun q hq => ⟨changed_apart hok hq, by show isPage (S.disk.commit S.changed).2.n q.1 = true; rw [hn]; exact (hok.changed q hq).1, (hok.changed q hq).2⟩)
  obtain ⟨i1, i2, i3, i4, i5, i6, _⟩ := hr
  have hfew := pages_few (n := S.disk.n) (by have := hok.blocks; unfold Dsk.n; omega) (by have := hok.blocks; unfold Dsk.n; omega) hok.srtc (fun q hq => (hok.changed q hq).1)
  have hbd := jPages_bd S.disk.n
  have hck : (S.emptied (S.disk.commit S.changed).2).clock = S.clock := rfl
  refine ⟨rfl, clean_holds _ hemp (fun q hq => ?_), i2, by rw [i3]; exact c2, i3, by simp only; omega, i5, i4⟩
  show q.2 = (S.disk.commit S.changed).2.blk q.1
  rw [c3 q.1 (hok.changed q hq).1, mem_get hok.srtc (show (q.1, q.2) ∈ S.changed from hq)]
  rfl
end Go.Proofs.YtdoankamaobkoaaGreatDoor
