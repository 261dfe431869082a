/- The disk's Cut and Restore; Open's pager, as plain data. -/
import Derived.Test.YtdoankamaobkoaaGreatDoorGetN
set_option linter.unusedSimpArgs false
set_option linter.unusedVariables false
namespace Go.Proofs.YtdoankamaobkoaaGreatDoor
open Go.RowKit Go.Maps Go.Shelf

def Dsk.cut (D : Dsk) (n : Int) : Dsk := { D with told := decide (0 ≤ n), left := n }
def Dsk.restore (D : Dsk) : Dsk := { D with told := false, down := false }
theorem diskAt_set {w : World} {d bb : Nat} {lg : Value} {D : Dsk} (h : DiskAt w d bb lg D) (i : Nat) (v : Value) (D' : Dsk) (hb : D'.blocks = D.blocks) (hl : D'.log = D.log)
    (hc : (#[.slice (some ⟨bb, 0, none⟩) D.blocks.length D.blocks.length, lg, .int .i64 D.left, .bool D.told, .bool D.down] : Array Value).setIfInBounds i v = #[.slice (some ⟨bb, 0, none⟩) D'.blocks.length D'.blocks.length, lg, .int .i64 D'.left, .bool D'.told, .bool D'.down]) :
    DiskAt (w.setCell ⟨d, i, none⟩ v) d bb lg D' := by
  have hset := heap_setCell_same h.d i v
  have hne : bb ≠ d := by intro e; have h1 := h.d; have h2 := h.bb; rw [← e, h2] at h1; simp at h1
  rw [hc] at hset
  refine ⟨hset, ?_, ?_⟩
  · rw [Below.heap_setCell _ _ _ _ (by exact hne), hb]; exact h.bb
  · rw [hl]; exact ownsRow_setCell_other h.lg (by exact (lg_ne h).1) _
set_option maxHeartbeats 1000000 in
theorem cut_any {w : World} {d bb : Nat} {lg : Value} {D : Dsk} (h : DiskAt w d bb lg D) (n : Int) :
    Calls Tryz.prog 18 #[.pointer (some ⟨d, 0, none⟩), .int .i64 n] w fun e w' => e = .returned (.tuple #[]) ∧ DStp d bb lg lg w w' (D.cut n) := by
  have c2 := cell_of h.d 2
  have c3 := cell_of h.d 3
  have f2 := frozen_of h.d 2
  have f3 := frozen_of h.d 3
  simp at c2 c3
  have e3 : (w.setCell ⟨d, 3, none⟩ (.bool (decide (0 ≤ n)))).frozen? ⟨d, 2, none⟩ = false := frozen_of (heap_setCell_same h.d 3 _) 2
  have h3 := diskAt_set h 3 (.bool (decide (0 ≤ n))) { D with told := decide (0 ≤ n) } rfl rfl (by simp)
  have h2 := diskAt_set h3 2 (.int .i64 n) (D.cut n) rfl rfl (by simp [Dsk.cut])
  have HST : Hid (DStp d bb lg lg w ((w.setCell ⟨d, 3, none⟩ (.bool (decide (0 ≤ n)))).setCell ⟨d, 2, none⟩ (.int .i64 n)) (D.cut n)) :=
    ⟨h2, ((Upd.refl _ w).setCell _ (fun _ => .inl rfl) _).setCell _ (fun _ => .inl rfl) _, fun b hb => .inl hb⟩
  clear h h2 h3
  go_enter Tryz.func18, Tryz.ntmps18
  go_wp2
  go_end0
  exact ⟨rfl, HST.out⟩
set_option maxHeartbeats 1000000 in
theorem restore_any {w : World} {d bb : Nat} {lg : Value} {D : Dsk} (h : DiskAt w d bb lg D) :
    Calls Tryz.prog 20 #[.pointer (some ⟨d, 0, none⟩)] w fun e w' => e = .returned (.tuple #[]) ∧ DStp d bb lg lg w w' D.restore := by
  have c4 := cell_of h.d 4
  have c3 := cell_of h.d 3
  have f4 := frozen_of h.d 4
  have f3 := frozen_of h.d 3
  simp at c4 c3
  have e3 : (w.setCell ⟨d, 3, none⟩ (.bool false)).frozen? ⟨d, 4, none⟩ = false := frozen_of (heap_setCell_same h.d 3 _) 4
  have h3 := diskAt_set h 3 (.bool false) { D with told := false } rfl rfl (by simp)
  have h2 := diskAt_set h3 4 (.bool false) D.restore rfl rfl (by simp [Dsk.restore])
  have HST : Hid (DStp d bb lg lg w ((w.setCell ⟨d, 3, none⟩ (.bool false)).setCell ⟨d, 4, none⟩ (.bool false)) D.restore) :=
    ⟨h2, ((Upd.refl _ w).setCell _ (fun _ => .inl rfl) _).setCell _ (fun _ => .inl rfl) _, fun b hb => .inl hb⟩
  clear h h2 h3
  go_enter Tryz.func20, Tryz.ntmps20
  go_wp2
  go_end0
  exact ⟨rfl, HST.out⟩

/-! ### Open's pager -/
def Pgr.lay (S : Pgr) (n : Int) : Int × Pgr := ((S.store 0 (padB (spName n) 256)).2.store (jFirst n) (padB ⟨#[1]⟩ 256)).2.commit
def pgOpen (D : Dsk) (room : Int) : Int × Pgr :=
  if (D.blk 0).extract 0 8 = spName D.n then (0, ((newPgr D room).load 0).2) else (((newPgr D room).load 0).2).lay D.n
/-- what a disk shows behind Open -/
def vOpen (n : Int) (V : Int → ByteArray) : Int → ByteArray := if (V 0).extract 0 8 = spName n then V else spLaid n V
theorem newPgr_load {D : Dsk} {room : Int} (h1 : 1 ≤ room) (hb : 64 ≤ D.n) (hd : D.down = false) :
    (newPgr D room).load 0 = ((D.blk 0, 0), ⟨D, room, [(0, ⟨D.blk 0, 0, 1⟩)], [], 1, 1⟩) := by
  have hm : (newPgr D room).may 0 = 0 := by unfold Pgr.may; rw [show (newPgr D room).disk = D from rfl, page_zero]; rfl
  have hr : D.read 0 = (D.blk 0, 0) := by
    unfold Dsk.read
    have : D.may 0 = 0 := by unfold Dsk.may; rw [if_neg (by simp [hd]), if_neg (by omega)]
    rw [if_pos this]; rfl
  unfold Pgr.load
  rw [if_neg (by simpa using hm)]
  simp only [newPgr, get, List.find?_nil, Option.map_none, hr, ne_eq, not_true_eq_false, if_false, Pgr.read, if_true, Pgr.hold, Pgr.full, List.length_nil, ins]
  rw [if_neg (by simp; omega)]
  rfl
theorem pg_lay {D : Dsk} {room : Int} {x : Pg} {c r n : Int} (h1 : 64 ≤ n) (h2 : n ≤ 2048) (hn : D.n = n) (hx : x.pins = 0) :
    (Pgr.lay ⟨D, room, [(0, x)], [], c, r⟩ n) = Pgr.commit ⟨D, room, [], [(0, padB (spName n) 256), (jFirst n, padB ⟨#[1]⟩ 256)], c, r⟩ := by
  have hF := first_pos h1 h2
  have hm0 : isPage D.n 0 = true := page_zero _
  have hmf : isPage D.n (jFirst n) = true := by rw [hn]; have := pages_many h1 h2; exact page_in (Int.le_refl _) (by omega)
  have s0 : (padB (spName n) 256).size = 256 := padB_size (by rw [spName_size]; omega)
  have s1 : (padB ⟨#[1]⟩ 256).size = 256 := padB_size (by decide)
  have e1 : (Pgr.store ⟨D, room, [(0, x)], [], c, r⟩ 0 (padB (spName n) 256)).2 = ⟨D, room, [], [(0, padB (spName n) 256)], c, r⟩ := by
    unfold Pgr.store Pgr.may
    simp only [hm0, if_true, ne_eq, not_true_eq_false, if_false, s0]
    simp [get, hx, del, ins]
  have e2 : (Pgr.store ⟨D, room, [], [(0, padB (spName n) 256)], c, r⟩ (jFirst n) (padB ⟨#[1]⟩ 256)).2 = ⟨D, room, [], [(0, padB (spName n) 256), (jFirst n, padB ⟨#[1]⟩ 256)], c, r⟩ := by
    unfold Pgr.store Pgr.may
    simp only [hmf, if_true, ne_eq, not_true_eq_false, if_false, s1]
    have h3 : ¬ jFirst n < 0 := by omega
    have h4 : ¬ (0 : Int) = jFirst n := by omega
    simp [get, del, ins, h3, h4]
  unfold Pgr.lay
  rw [e1, e2]
theorem over_lay {n : Int} (h1 : 64 ≤ n) (h2 : n ≤ 2048) (V : Int → ByteArray) : over [(0, padB (spName n) 256), (jFirst n, padB ⟨#[1]⟩ 256)] V = spLaid n V := by
  have hF := first_pos h1 h2
  funext i
  unfold over spLaid upd get
  by_cases e1 : i = jFirst n
  · subst e1
    have : ¬ (0 : Int) = jFirst n := by omega
    simp [List.find?_cons, this]
  · by_cases e2 : i = 0
    · subst e2; simp [List.find?_cons, e1]
    · have h3 : ¬ (0 : Int) = i := fun h => e2 h.symm
      have h4 : ¬ jFirst n = i := fun h => e1 h.symm
      simp [List.find?_cons, e1, e2, h3, h4]
/-- Open where the power may fail: what lies on the disk -/
theorem open_cut {D : Dsk} {V : Int → ByteArray} {room : Int} (h1 : 1 ≤ room) (h : Eff D V) (hd : D.down = false) (hc : CleanB D.n D.blk V) :
    (pgOpen D room).2.disk.told = D.told ∧ (pgOpen D room).2.disk.n = D.n ∧
    (((pgOpen D room).1 = 0 ∧ (pgOpen D room).2.disk.down = false ∧ CleanB D.n (pgOpen D room).2.disk.blk (vOpen D.n V) ∧ Eff (pgOpen D room).2.disk (vOpen D.n V)) ∨
     ((pgOpen D room).1 = 17 ∧ D.told = true ∧ (pgOpen D room).2.disk.down = true ∧ (Eff (pgOpen D room).2.disk V ∨ Eff (pgOpen D room).2.disk (vOpen D.n V)))) := by
  obtain ⟨n1, n2⟩ := h.n
  have h0 := hc.2 0 (page_zero _)
  have hl := newPgr_load h1 n1 hd
  unfold pgOpen vOpen
  rw [← h0]
  by_cases hname : (D.blk 0).extract 0 8 = spName D.n
  · rw [if_pos hname, if_pos hname, hl]
    exact ⟨rfl, rfl, .inl ⟨rfl, hd, hc, h⟩⟩
  · rw [if_neg hname, if_neg hname, hl, pg_lay n1 n2 rfl rfl]
    have hF := first_pos n1 n2
    have hmf : isPage D.n (jFirst D.n) = true := by have := pages_many n1 n2; exact page_in (Int.le_refl _) (by omega)
    have hs : Srt [((0 : Int), padB (spName D.n) 256), (jFirst D.n, padB ⟨#[1]⟩ 256)] := by simp [Srt]; omega
    have hm : jMay D.n [((0 : Int), padB (spName D.n) 256), (jFirst D.n, padB ⟨#[1]⟩ 256)] = 0 := by
      unfold jMay
      have := pages_many n1 n2
      rw [if_neg (by simp; omega)]
      refine jMayL_zero _ _ _ (fun q hq => ?_) hs (by simp)
      simp at hq
      rcases hq with rfl | rfl
      · exact ⟨page_zero _, padB_size (by rw [spName_size]; omega)⟩
      · exact ⟨hmf, padB_size (by decide)⟩
    obtain ⟨k1, k2, k3⟩ := commit_cut h hd hc hm hs
    rw [over_lay n1 n2] at k3
    have e : ∀ S : Pgr, S.commit.1 = (S.disk.commit S.changed).1 ∧ S.commit.2.disk = (S.disk.commit S.changed).2 := fun S => by
      unfold Pgr.commit
      split
      · exact ⟨rfl, rfl⟩
      · rename_i hz
        refine ⟨by simp only; omega, ?_⟩
        simp only
        have : ∀ (l : Pgs) (S : Pgr), (S.holds l).disk = S.disk := fun l => by
          induction l with
          | nil => intro S; rfl
          | cons q l ih => intro S; exact (ih _).trans (hold_rest q.1 q.2).2.1
        rw [this]; rfl
    obtain ⟨e1, e2⟩ := e ⟨D, room, [], [(0, padB (spName D.n) 256), (jFirst D.n, padB ⟨#[1]⟩ 256)], 1, 1⟩
    rw [e1, e2]
    exact ⟨k1, k2, k3⟩
/-- Open where no cut is told -/
theorem open_up {D : Dsk} {room N : Int} (h1 : 1 ≤ room) (h2 : room ≤ 1024) (hb : 64 ≤ D.n ∧ D.n ≤ 2048) (hs : ∀ s ∈ D.blocks, s.size = 256) (hup : D.Up) (hj : D.blk 1 = fill ⟨#[]⟩) (hN : (D.log.length : Int) ≤ N) :
    (pgOpen D room).1 = 0 ∧ Sp (pgOpen D room).2 D.n (spOpened D) (spOpened D) (N + 4002) := by
  have hsp := sp_new h1 h2 hb hs hup hj hN
  obtain ⟨l1, l2⟩ := hsp.load (page_zero _)
  unfold pgOpen spOpened
  by_cases hname : (D.blk 0).extract 0 8 = spName D.n
  · rw [if_pos hname, if_pos hname]
    exact ⟨rfl, l2.mono (by omega)⟩
  · rw [if_neg hname, if_neg hname]
    have hmf : isPage D.n (jFirst D.n) = true := by have := pages_many hb.1 hb.2; exact page_in (Int.le_refl _) (by omega)
    obtain ⟨_, s1⟩ := l2.store (page_zero _) (s := padB (spName D.n) 256) (padB_size (by rw [spName_size]; omega))
    obtain ⟨_, s2⟩ := s1.store hmf (s := padB ⟨#[1]⟩ 256) (padB_size (by decide))
    obtain ⟨c1, c2⟩ := s2.commit
    exact ⟨c1, c2.mono (by omega)⟩
end Go.Proofs.YtdoankamaobkoaaGreatDoor
