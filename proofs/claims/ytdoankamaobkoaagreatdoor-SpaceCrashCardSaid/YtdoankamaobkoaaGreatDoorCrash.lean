/- Where the power fails: what a disk holds while a group is written, and while it is brought home. (Plain.) -/
import Derived.Test.YtdoankamaobkoaaGreatDoorS1
set_option linter.unusedSimpArgs false
set_option linter.unusedVariables false
namespace Go.Proofs.YtdoankamaobkoaaGreatDoor
open Go.RowKit Go.Maps Go.Shelf

/-- blocks, some of them written -/
def app (f : Int → ByteArray) (l : Pgs) : Int → ByteArray := l.foldl (fun f q => upd f q.1 q.2) f
theorem app_cons (f : Int → ByteArray) (q : Int × ByteArray) (l : Pgs) : app f (q :: l) = app (upd f q.1 q.2) l := rfl
theorem app_append (f : Int → ByteArray) (a b : Pgs) : app f (a ++ b) = app (app f a) b := List.foldl_append
theorem app_snoc (f : Int → ByteArray) (l : Pgs) (q : Int × ByteArray) : app f (l ++ [q]) = upd (app f l) q.1 q.2 := by rw [app_append]; rfl
theorem app_other {k : Int} : ∀ (l : Pgs) (f : Int → ByteArray), (∀ q ∈ l, q.1 ≠ k) → app f l k = f k
  | [], f, _ => rfl
  | q :: l, f, h => by
    rw [app_cons, app_other l _ (fun x hx => h x (by simp [hx])), upd_other _ (fun e => h q (by simp) e.symm)]
theorem app_const {k : Int} {v : ByteArray} : ∀ (l : Pgs) (f : Int → ByteArray), (∀ q ∈ l, q.1 = k → q.2 = v) → (f k = v ∨ ∃ q ∈ l, q.1 = k) → app f l k = v
  | [], f, _, h => by
    rcases h with h | ⟨q, hq, _⟩
    · exact h
    · simp at hq
  | q :: l, f, ha, h => by
    rw [app_cons]
    refine app_const l _ (fun x hx => ha x (by simp [hx])) ?_
    by_cases e : q.1 = k
    · subst e; exact .inl (by rw [upd_same]; exact ha q (by simp) rfl)
    · rcases h with h | ⟨x, hx, he⟩
      · exact .inl (by rw [upd_other _ (fun h => e h.symm)]; exact h)
      · rcases List.mem_cons.1 hx with rfl | hx
        · exact absurd he e
        · exact .inr ⟨x, hx, he⟩
theorem app_congr {l : Pgs} : ∀ {f g : Int → ByteArray} {k : Int}, f k = g k → app f l k = app g l k := by
  induction l with
  | nil => intro f g k h; exact h
  | cons q l ih =>
    intro f g k h
    rw [app_cons, app_cons]
    apply ih
    by_cases e : k = q.1
    · subst e; rw [upd_same, upd_same]
    · rw [upd_other _ e, upd_other _ e]; exact h

/-- one write where the power is on -/
theorem write_on {S : Dsk} (h : S.down = false) {i : Int} {s : ByteArray} (h0 : 0 ≤ i) (h1 : i < S.n) (hs : s.size = 256) :
    (S.write i s).2.told = S.told ∧ (S.write i s).2.blocks.length = S.blocks.length ∧
    (((S.write i s).1 = 0 ∧ (S.write i s).2.down = false ∧ ∀ k, 0 ≤ k → (S.write i s).2.blk k = upd S.blk i s k) ∨
     ((S.write i s).1 = 17 ∧ S.told = true ∧ (S.write i s).2.down = true ∧ ∀ k, (S.write i s).2.blk k = S.blk k)) := by
  have hm : S.may i = 0 := by unfold Dsk.may; rw [if_neg (by simp [h]), if_neg (by omega)]
  unfold Dsk.write
  rw [if_neg (by omega), if_neg (by omega)]
  unfold Dsk.n at h1
  split
  · rename_i ht
    exact ⟨rfl, rfl, .inr ⟨rfl, ht.1, rfl, fun k => rfl⟩⟩
  · refine ⟨rfl, by simp, .inl ⟨rfl, h, fun k hk => ?_⟩⟩
    by_cases e : k = i
    · subst e
      rw [upd_same]
      unfold Dsk.blk
      simp only [List.getD_eq_getElem?_getD]
      rw [List.getElem?_set_self (by omega)]; rfl
    · rw [upd_other _ e]
      unfold Dsk.blk
      simp only [List.getD_eq_getElem?_getD]
      rw [List.getElem?_set_ne (by omega)]
/-- writes, up to where the power fails -/
theorem writes_cut : ∀ (l : Pgs) {S : Dsk}, S.down = false → (∀ q ∈ l, 0 ≤ q.1 ∧ q.1 < S.n ∧ q.2.size = 256) →
    ∃ p, p <+: l ∧ (∀ k, 0 ≤ k → (S.writes l).2.blk k = app S.blk p k) ∧ (S.writes l).2.told = S.told ∧ (S.writes l).2.blocks.length = S.blocks.length ∧
      (((S.writes l).1 = 0 ∧ p = l ∧ (S.writes l).2.down = false) ∨ ((S.writes l).1 = 17 ∧ S.told = true ∧ (S.writes l).2.down = true))
  | [], S, h, _ => ⟨[], List.prefix_refl _, fun k _ => rfl, rfl, rfl, .inl ⟨rfl, rfl, h⟩⟩
  | q :: l, S, h, hq => by
    obtain ⟨a1, a2, a3⟩ := hq q (by simp)
    obtain ⟨w1, w2, w3⟩ := write_on h a1 a2 a3
    have hn : (S.write q.1 q.2).2.n = S.n := by unfold Dsk.n; rw [w2]
    rcases w3 with ⟨b1, b2, b3⟩ | ⟨b1, b2, b3, b4⟩
    · have e : S.writes (q :: l) = (S.write q.1 q.2).2.writes l := by simp only [Dsk.writes]; rw [if_neg (by omega)]
      obtain ⟨p, p1, p2, p3, p4, p5⟩ := writes_cut l b2 (fun x hx => by rw [hn]; exact hq x (by simp [hx]))
      rw [e]
      refine ⟨q :: p, List.cons_prefix_cons.2 ⟨rfl, p1⟩, fun k hk => ?_, p3.trans w1, p4.trans w2, ?_⟩
      · rw [p2 k hk, app_cons]; exact app_congr (b3 k hk)
      · rcases p5 with ⟨c1, rfl, c3⟩ | ⟨c1, c2, c3⟩
        · exact .inl ⟨c1, rfl, c3⟩
        · exact .inr ⟨c1, by rw [← w1]; exact c2, c3⟩
    · have e : S.writes (q :: l) = S.write q.1 q.2 := by simp only [Dsk.writes]; rw [if_pos (by omega)]
      rw [e]
      exact ⟨[], List.nil_prefix, fun k _ => b4 k, w1, w2, .inr ⟨b1, b2, b3⟩⟩

/-! ### what the blocks tell -/
/-- the group l stands, and isn't home yet -/
structure PendB (n : Int) (b : Int → ByteArray) (l : Pgs) : Prop where
  ne : l ≠ []
  may : jMay n l = 0
  srt : Srt l
  top : b 1 = jTop l
  copies : ∀ i, i < l.length → b (jCopies n + (i : Int)) = (l.getD i (0, ⟨#[]⟩)).2
  rows : ∀ i, i < (jList l).length → b (2 + (i : Int)) = (jList l).getD i ⟨#[]⟩
def CleanB (n : Int) (b V : Int → ByteArray) : Prop := b 1 = fill ⟨#[]⟩ ∧ ∀ i, isPage n i = true → b i = V i
/-- what was begun stands, and V is what it comes to -/
def EffB (n : Int) (b V : Int → ByteArray) : Prop := CleanB n b V ∨ ∃ l, PendB n b l ∧ ∀ i, isPage n i = true → (get i l).getD (b i) = V i
/-- what the pages show when l is home -/
def over (l : Pgs) (V : Int → ByteArray) : Int → ByteArray := fun i => (get i l).getD (V i)

theorem jCopies_bd {n : Int} (h1 : 64 ≤ n) (h2 : n ≤ 2048) : 3 ≤ jCopies n ∧ jFirst n = jCopies n + jPages n ∧ 31 ≤ jPages n ∧ jPages n ≤ 1024 ∧ jCopies n = 2 + jBlocks (jPages n) := by
  have h3 := pages_many h1 h2
  have h4 := first_eq h1 h2
  have h5 := jPages_bd n
  have : 1 ≤ jBlocks (jPages n) := by unfold jBlocks; omega
  refine ⟨by unfold jCopies; omega, h4, h3, h5.2, rfl⟩
theorem page_way {n i : Int} (h : isPage n i = true) : i = 0 ∨ jFirst n ≤ i := by
  unfold isPage at h
  simp only [Bool.or_eq_true, Bool.and_eq_true, decide_eq_true_eq] at h
  omega
theorem jList_few {n : Int} {l : Pgs} (hl : (l.length : Int) ≤ jPages n) : ((jList l).length : Int) ≤ jBlocks (jPages n) := by
  rw [jList_length]; unfold jBlocks; omega
theorem PendB.congr {n : Int} {b b' : Int → ByteArray} {l : Pgs} (h : PendB n b l) (h1 : 64 ≤ n) (h2 : n ≤ 2048) (he : ∀ k, 0 ≤ k → b' k = b k) : PendB n b' l := by
  obtain ⟨c1, _⟩ := jCopies_bd h1 h2
  exact ⟨h.ne, h.may, h.srt, by rw [he 1 (by omega)]; exact h.top, fun i hi => by rw [he _ (by omega)]; exact h.copies i hi, fun i hi => by rw [he _ (by omega)]; exact h.rows i hi⟩
theorem CleanB.congr {n : Int} {b b' V : Int → ByteArray} (h : CleanB n b V) (he : ∀ k, 0 ≤ k → b' k = b k) : CleanB n b' V :=
  ⟨by rw [he 1 (by omega)]; exact h.1, fun i hi => by rw [he i (isPage_bd hi).1]; exact h.2 i hi⟩
theorem EffB.congr {n : Int} {b b' V : Int → ByteArray} (h : EffB n b V) (h1 : 64 ≤ n) (h2 : n ≤ 2048) (he : ∀ k, 0 ≤ k → b' k = b k) : EffB n b' V := by
  rcases h with h | ⟨l, hp, hv⟩
  · exact .inl (h.congr he)
  · exact .inr ⟨l, hp.congr h1 h2 he, fun i hi => by rw [he i (isPage_bd hi).1]; exact hv i hi⟩
theorem EffB.congrV {n : Int} {b V V' : Int → ByteArray} (h : EffB n b V) (he : ∀ i, isPage n i = true → V' i = V i) : EffB n b V' := by
  rcases h with h | ⟨l, hp, hv⟩
  · exact .inl ⟨h.1, fun i hi => (h.2 i hi).trans (he i hi).symm⟩
  · exact .inr ⟨l, hp, fun i hi => (hv i hi).trans (he i hi).symm⟩
theorem over_app {n : Int} {l : Pgs} (hs : Srt l) (b : Int → ByteArray) (i : Int) : app b l i = over l b i := by
  unfold over
  cases hg : get i l with
  | none => exact app_other l b (get_none hg)
  | some s =>
    refine app_const l b (fun q hq e => ?_) (.inr ⟨_, get_mem hg, rfl⟩)
    have := mem_get hs (show (q.1, q.2) ∈ l from hq)
    rw [e, hg] at this
    exact (Option.some.inj this).symm
section
variable {n : Int} {b V : Int → ByteArray} {l p : Pgs} (h1 : 64 ≤ n) (h2 : n ≤ 2048)
include h1 h2
/-- part of what is written home -/
theorem home_part (h : PendB n b l) (hv : ∀ i, isPage n i = true → (get i l).getD (b i) = V i) (hp : p <+: homeL l) : EffB n (app b p) V ∧ (p = homeL l → CleanB n (app b p) V) := by
  obtain ⟨c1, c2, c3, c4, c5⟩ := jCopies_bd h1 h2
  obtain ⟨m1, m2⟩ := jMay_ok h.may
  have hrow := jList_few m1
  unfold homeL at hp ⊢
  have hfull : CleanB n (app b (l ++ [(1, fill ⟨#[]⟩)])) V := by
    rw [app_snoc]
    refine ⟨upd_same _ _ _, fun i hi => ?_⟩
    have hw := page_way hi
    show upd _ _ _ i = _
    rw [upd_other _ (by show i ≠ 1; omega), over_app (n := n) h.srt]
    exact hv i hi
  rcases List.prefix_concat_iff.1 hp with rfl | hp
  · exact ⟨.inl hfull, fun _ => hfull⟩
  · refine ⟨.inr ⟨l, ?_, fun i hi => ?_⟩, fun e => ?_⟩
    · have hno : ∀ k, 1 ≤ k → k < jFirst n → app b p k = b k := fun k hk1 hk2 => app_other p b (fun q hq e => by
        have := page_way (m2 q (hp.subset hq)).1
        omega)
      exact ⟨h.ne, h.may, h.srt, by rw [hno 1 (by omega) (by omega)]; exact h.top, fun i hi => by rw [hno _ (by omega) (by omega)]; exact h.copies i hi, fun i hi => by rw [hno _ (by omega) (by omega)]; exact h.rows i hi⟩
    · rw [← hv i hi]
      cases hg : get i l with
      | some s => rfl
      | none => exact app_other p b (fun q hq => get_none hg q (hp.subset hq))
    · have := hp.length_le
      rw [e, List.length_append] at this
      exact absurd this (by simp)
theorem low_keys (hl : (l.length : Int) ≤ jPages n) : ∀ q ∈ copiesL n l ++ rowsL l, 2 ≤ q.1 ∧ q.1 < jFirst n := by
  obtain ⟨c1, c2, c3, c4, c5⟩ := jCopies_bd h1 h2
  have hrow := jList_few hl
  intro q hq
  simp only [copiesL, rowsL, List.mem_append, List.mem_map, List.mem_range] at hq
  rcases hq with ⟨i, hi, rfl⟩ | ⟨i, hi, rfl⟩
  · simp only; omega
  · simp only; omega
theorem low_part (hc : CleanB n b V) (hl : (l.length : Int) ≤ jPages n) (hp : p <+: copiesL n l ++ rowsL l) : CleanB n (app b p) V := by
  obtain ⟨c1, c2, c3, c4, c5⟩ := jCopies_bd h1 h2
  have hk := low_keys h1 h2 hl
  refine ⟨?_, fun i hi => ?_⟩
  · rw [app_other p b (fun q hq e => by have := hk q (hp.subset hq); omega)]; exact hc.1
  · rw [app_other p b (fun q hq e => by have := hk q (hp.subset hq); have := page_way hi; omega)]; exact hc.2 i hi
theorem low_pend (hc : CleanB n b V) (hm : jMay n l = 0) (hs : Srt l) (hne : l ≠ []) :
    PendB n (app b ((copiesL n l ++ rowsL l) ++ [(1, jTop l)])) l ∧ ∀ i, isPage n i = true → (get i l).getD (app b ((copiesL n l ++ rowsL l) ++ [(1, jTop l)]) i) = over l V i := by
  obtain ⟨c1, c2, c3, c4, c5⟩ := jCopies_bd h1 h2
  obtain ⟨m1, m2⟩ := jMay_ok hm
  have hrow := jList_few m1
  have hk := low_keys h1 h2 m1
  refine ⟨⟨hne, hm, hs, by rw [app_snoc]; exact upd_same _ _ _, fun i hi => ?_, fun i hi => ?_⟩, fun i hi => ?_⟩
  · refine app_const _ _ (fun q hq e => ?_) (.inr ⟨(jCopies n + (i : Int), (l.getD i (0, ⟨#[]⟩)).2), ?_, rfl⟩)
    · simp only [copiesL, rowsL, List.mem_append, List.mem_map, List.mem_range, List.mem_singleton] at hq
      rcases hq with (⟨j, hj, rfl⟩ | ⟨j, hj, rfl⟩) | rfl
      · obtain rfl : j = i := by simp only at e; omega
        rfl
      · simp only at e; omega
      · simp only at e; omega
    · exact List.mem_append_left _ (List.mem_append_left _ (List.mem_map.2 ⟨i, List.mem_range.2 hi, rfl⟩))
  · refine app_const _ _ (fun q hq e => ?_) (.inr ⟨(2 + (i : Int), (jList l).getD i ⟨#[]⟩), ?_, rfl⟩)
    · simp only [copiesL, rowsL, List.mem_append, List.mem_map, List.mem_range, List.mem_singleton] at hq
      rcases hq with (⟨j, hj, rfl⟩ | ⟨j, hj, rfl⟩) | rfl
      · simp only at e; omega
      · obtain rfl : j = i := by simp only at e; omega
        rfl
      · simp only at e; omega
    · exact List.mem_append_left _ (List.mem_append_right _ (List.mem_map.2 ⟨i, List.mem_range.2 hi, rfl⟩))
  · have hw := page_way hi
    unfold over
    rw [app_snoc]
    rw [upd_other _ (by show i ≠ 1; omega), app_other _ b (fun q hq e => by have := hk q hq; omega), hc.2 i hi]
/-- part of what a group writes -/
theorem all_part (hc : CleanB n b V) (hm : jMay n l = 0) (hs : Srt l) (hne : l ≠ []) (hp : p <+: allL n l) : (EffB n (app b p) V ∨ EffB n (app b p) (over l V)) ∧ (p = allL n l → CleanB n (app b p) (over l V)) := by
  obtain ⟨m1, m2⟩ := jMay_ok hm
  obtain ⟨q1, q2⟩ := low_pend h1 h2 hc hm hs hne
  have hsplit : allL n l = ((copiesL n l ++ rowsL l) ++ [(1, jTop l)]) ++ homeL l := by simp [allL]
  rw [hsplit] at hp ⊢
  have hq := home_part h1 h2 (p := homeL l) q1 q2 (List.prefix_refl _)
  refine ⟨?_, fun e => by rw [e, app_append]; exact hq.2 rfl⟩
  rcases List.prefix_or_prefix_of_prefix hp (List.prefix_append _ _) with h | h
  · rcases List.prefix_concat_iff.1 h with rfl | h
    · exact .inr (.inr ⟨l, q1, q2⟩)
    · exact .inl (.inl (low_part h1 h2 hc m1 h))
  · obtain ⟨r, rfl⟩ := h
    have hr : r <+: homeL l := (List.prefix_append_right_inj _).1 hp
    rw [app_append]
    exact .inr (home_part h1 h2 q1 q2 hr).1
end

/-! ### disks -/
/-- a disk of whole blocks on which V stands, once what was begun is ended -/
structure Eff (D : Dsk) (V : Int → ByteArray) : Prop where
  bd : 64 ≤ D.blocks.length ∧ D.blocks.length ≤ 2048
  sizes : ∀ s ∈ D.blocks, s.size = 256
  eff : EffB D.n D.blk V
theorem Eff.good {D D' : Dsk} {V V' : Int → ByteArray} (h : Eff D V) (hg : Dsk.Good D D') (he : EffB D.n D'.blk V') : Eff D' V' :=
  ⟨by rw [hg.len]; exact h.bd, hg.sizes h.sizes, by unfold Dsk.n at he ⊢; rw [hg.len]; exact he⟩
theorem Eff.n {D : Dsk} {V : Int → ByteArray} (h : Eff D V) : 64 ≤ D.n ∧ D.n ≤ 2048 := by have := h.bd; unfold Dsk.n; omega
/-- the home of a group, up to where the power fails -/
theorem home_cut {D : Dsk} {V : Int → ByteArray} {l : Pgs} (h : Eff D V) (hd : D.down = false) (hp : PendB D.n D.blk l) (hv : ∀ i, isPage D.n i = true → (get i l).getD (D.blk i) = V i) :
    Eff (D.writes (homeL l)).2 V ∧ (D.writes (homeL l)).2.told = D.told ∧ (D.writes (homeL l)).2.n = D.n ∧
    (((D.writes (homeL l)).1 = 0 ∧ (D.writes (homeL l)).2.down = false ∧ CleanB D.n (D.writes (homeL l)).2.blk V) ∨ ((D.writes (homeL l)).1 = 17 ∧ D.told = true ∧ (D.writes (homeL l)).2.down = true)) := by
  obtain ⟨m1, m2⟩ := jMay_ok hp.may
  obtain ⟨n1, n2⟩ := h.n
  obtain ⟨p, p1, p2, p3, p4, p5⟩ := writes_cut (homeL l) hd (fun q hq => by
    rcases List.mem_append.1 hq with hq | hq
    · have := page_lt n1 n2 (m2 q hq).1; exact ⟨this.1, this.2, (m2 q hq).2⟩
    · simp at hq; subst hq; exact ⟨by simp, by simp; omega, padB_size (by decide)⟩)
  obtain ⟨r1, r2⟩ := home_part n1 n2 hp hv p1
  have hg := Dsk.writes_good (homeL l) D
  refine ⟨h.good hg (r1.congr n1 n2 p2), p3, by unfold Dsk.n; rw [p4], ?_⟩
  rcases p5 with ⟨a1, a2, a3⟩ | hx
  · exact .inl ⟨a1, a3, (r2 a2).congr p2⟩
  · exact .inr hx
/-- a Commit, up to where the power fails -/
theorem commit_cut {D : Dsk} {V : Int → ByteArray} {l : Pgs} (h : Eff D V) (hd : D.down = false) (hc : CleanB D.n D.blk V) (hm : jMay D.n l = 0) (hs : Srt l) :
    (D.commit l).2.told = D.told ∧ (D.commit l).2.n = D.n ∧
    (((D.commit l).1 = 0 ∧ (D.commit l).2.down = false ∧ CleanB D.n (D.commit l).2.blk (over l V) ∧ Eff (D.commit l).2 (over l V)) ∨
     ((D.commit l).1 = 17 ∧ D.told = true ∧ (D.commit l).2.down = true ∧ (Eff (D.commit l).2 V ∨ Eff (D.commit l).2 (over l V)))) := by
  obtain ⟨n1, n2⟩ := h.n
  by_cases hz : l = []
  · subst hz
    have e : D.commit [] = (0, D) := by unfold Dsk.commit; rw [if_neg (by omega), if_pos rfl]
    rw [e]
    exact ⟨rfl, rfl, .inl ⟨rfl, hd, hc, ⟨h.bd, h.sizes, .inl hc⟩⟩⟩
  · have e : D.commit l = D.writes (allL D.n l) := by unfold Dsk.commit; rw [if_neg (by omega), if_neg hz]
    rw [e]
    obtain ⟨m1, m2⟩ := jMay_ok hm
    have hlow := allL_low n1 n2 m1
    have hsz := allL_sizes D.n (fun q hq => (m2 q hq).2)
    obtain ⟨p, p1, p2, p3, p4, p5⟩ := writes_cut (allL D.n l) hd (fun q hq => by
      have hsq := hsz q hq
      have hsplit : allL D.n l = (copiesL D.n l ++ (rowsL l ++ [(1, jTop l)])) ++ (l ++ [(1, fill ⟨#[]⟩)]) := by simp [allL, homeL]
      rw [hsplit] at hq
      rcases List.mem_append.1 hq with h | h
      · have := hlow q h; exact ⟨by omega, this.2.2, hsq⟩
      · rcases List.mem_append.1 h with h | h
        · have := page_lt n1 n2 (m2 q h).1; exact ⟨this.1, this.2, hsq⟩
        · simp at h; subst h; exact ⟨by simp, by simp; omega, hsq⟩)
    obtain ⟨r1, r2⟩ := all_part n1 n2 hc hm hs hz p1
    have hg := Dsk.writes_good (allL D.n l) D
    refine ⟨p3, congrArg (fun k : Nat => (k : Int)) p4, ?_⟩
    rcases p5 with ⟨a1, a2, a3⟩ | ⟨a1, a2, a3⟩
    · have hcl := (r2 a2).congr p2
      exact .inl ⟨a1, a3, hcl, h.good hg (.inl hcl)⟩
    · refine .inr ⟨a1, a2, a3, ?_⟩
      rcases r1 with r | r
      · exact .inl (h.good hg (r.congr n1 n2 p2))
      · exact .inr (h.good hg (r.congr n1 n2 p2))
end Go.Proofs.YtdoankamaobkoaaGreatDoor
