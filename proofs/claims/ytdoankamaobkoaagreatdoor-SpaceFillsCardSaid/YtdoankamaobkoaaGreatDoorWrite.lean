/- The disk's Write: plain, and what the call comes to. -/
import Derived.Test.YtdoankamaobkoaaGreatDoorMay
import Derived.Maps.AppendAt
set_option linter.unusedSimpArgs false
set_option linter.unusedVariables false
namespace Go.Proofs.YtdoankamaobkoaaGreatDoor
open Go.RowKit Go.Maps Go.Shelf

def Dsk.write (S : Dsk) (i : Int) (s : ByteArray) : Int × Dsk :=
  if S.may i ≠ 0 then (S.may i, S) else
  if s.size ≠ 256 then (3, S) else
  if S.told = true ∧ S.left = 0 then (17, { S with down := true }) else
  (0, { S with left := if S.told then S.left - 1 else S.left, blocks := S.blocks.set i.toNat s, log := S.log ++ [(i, s)] })
/-- what holds of the power's count, and of the log's length -/
structure Dsk.Fit (S : Dsk) : Prop where
  left : S.told = true → 0 ≤ S.left ∧ S.left < 9223372036854775808
  log : S.log.length < 1000000000000

/-- the blocks of a disk -/
def dfp (d bb : Nat) (lg : Value) (b : Nat) : Prop := b = d ∨ b = bb ∨ lg.ownBlock = some b

/-- a disk has turned into another: its own blocks alone; its log lies where it lay, or in a new block -/
structure DStp (d bb : Nat) (lg lg' : Value) (w w' : World) (S' : Dsk) : Prop where
  at_ : DiskAt w' d bb lg' S'
  upd : Upd (dfp d bb lg) w w'
  log : ∀ b, lg'.ownBlock = some b → lg.ownBlock = some b ∨ w.heap.size ≤ b

theorem log_append (W : World) (lg : Value) (l : List (Int × ByteArray)) (i : Int) (s : ByteArray) (hown : W.ownsRow 0 112 2 lg l.length (pageCells l)) (hlen : l.length < 1000000000000) :
    ∃ v3 w3, (Builtin.append_ #[81, 81] 81 #[lg, .slice (some ⟨W.heap.size, 0, none⟩) 1 1]).run Tryz.prog (W.alloc (.cells #[.int .i64 i, .string s] 112)) = .ok v3 w3 ∧
      w3.ownsRow 0 112 2 v3 (l ++ [(i, s)]).length (pageCells (l ++ [(i, s)])) ∧ (W.alloc (.cells #[.int .i64 i, .string s] 112)).grownBy w3 lg.ownBlock ∧ (v3.ownBlock = lg.ownBlock ∨ v3.ownBlock = some (W.heap.size + 1)) := by
  obtain ⟨i0, hi, hz0, hz1, hz2⟩ := info_parts info_page
  obtain ⟨v3, w3, hr, hown3, hgr, _, hat⟩ := run_append_own_at (P := Tryz.prog) (W.alloc (.cells #[.int .i64 i, .string s] 112)) 0 81 81 112 i0 (.agg #[.int .i64 0, .string ⟨#[]⟩]) 2 24 Tryz.underlying81 hi hz0 hz1 hz2 rfl (by omega)
    lg l.length (pageCells l) (hown.alloc _) ⟨W.heap.size, 0, none⟩ 1 1 [.int .i64 i, .string s] rfl (by
      intro k u hk
      have hadd : Addr.add ⟨W.heap.size, 0, none⟩ k = ⟨W.heap.size, k, none⟩ := by unfold Addr.add; split <;> simp_all
      rw [hadd, cell_new]
      simpa using hk) (by simp [Value.oneCell']) (by unfold maxLen; omega) (by omega) (by omega)
  refine ⟨v3, w3, hr, ?_, hgr, by rw [World.size_alloc] at hat; exact hat⟩
  rw [List.length_append, pageCells, List.flatMap_append]
  exact hown3

theorem lg_ne {w : World} {d bb : Nat} {lg : Value} {S : Dsk} (h : DiskAt w d bb lg S) : lg.ownBlock ≠ some d ∧ lg.ownBlock ≠ some bb := by
  obtain ⟨_, ⟨rfl, _⟩ | ⟨g, cap, cur, rfl, _, hg, _⟩⟩ := h.lg
  · simp [Value.ownBlock]
  · refine ⟨fun e => ?_, fun e => ?_⟩
    · simp [Value.ownBlock] at e; subst e; rw [h.d] at hg; simp at hg
    · simp [Value.ownBlock] at e; subst e; rw [h.bb] at hg; simp at hg

/-- behind the write of the block: the log grows -/
theorem write_tail {w W0 : World} {d bb : Nat} {lg : Value} {S : Dsk} (hne : d ≠ bb) (hlg : lg.ownBlock ≠ some d ∧ lg.ownBlock ≠ some bb) (hu : Upd (dfp d bb lg) w W0) (hfit : S.log.length < 1000000000000) (l2 : Int) (bs : List ByteArray) (i : Int) (s : ByteArray)
    (hd : W0.heap[d]? = some (.cells #[.slice (some ⟨bb, 0, none⟩) bs.length bs.length, lg, .int .i64 l2, .bool S.told, .bool S.down] 83 (0, 0)))
    (hb : W0.heap[bb]? = some (.cells (bs.map Value.string).toArray 9 (0, 0)))
    (hr : W0.ownsRow 0 112 2 lg S.log.length (pageCells S.log)) :
    ∃ v3 w3, (Builtin.append_ #[81, 81] 81 #[lg, .slice (some ⟨W0.heap.size, 0, none⟩) 1 1]).run Tryz.prog (W0.alloc (.cells #[.int .i64 i, .string s] 112)) = .ok v3 w3 ∧
      w3.cell? ⟨d, 1, none⟩ = some lg ∧ w3.frozen? ⟨d, 1, none⟩ = false ∧ v3.oneCell' = true ∧
      DStp d bb lg v3 w (w3.setCell ⟨d, 1, none⟩ v3) { S with left := l2, blocks := bs, log := S.log ++ [(i, s)] } := by
  obtain ⟨v3, w3, hrun, hown3, hgr, hat⟩ := log_append W0 lg S.log i s hr hfit
  have hd1 : w3.heap[d]? = some (.cells #[.slice (some ⟨bb, 0, none⟩) bs.length bs.length, lg, .int .i64 l2, .bool S.told, .bool S.down] 83 (0, 0)) := by
    rw [hgr.block d (by have := lt_of hd; simp; omega) (fun e => hlg.1 e.symm), Below.heap_alloc _ _ _ (lt_of hd), hd]
  have hb1 : w3.heap[bb]? = some (.cells (bs.map Value.string).toArray 9 (0, 0)) := by
    rw [hgr.block bb (by have := lt_of hb; simp; omega) (fun e => hlg.2 e.symm), Below.heap_alloc _ _ _ (lt_of hb), hb]
  have hv3 : ∀ b, v3.ownBlock = some b → lg.ownBlock = some b ∨ (w.heap.size ≤ b ∧ b ≠ d ∧ b ≠ bb) := fun b hb' => by
    have h1 := lt_of hd
    have h2 := lt_of hb
    have h3 := hu.size
    rcases hat with h | h
    · exact .inl (h ▸ hb')
    · rw [h] at hb'; simp at hb'; exact .inr ⟨by omega, by omega, by omega⟩
  have hv3d : v3.ownBlock ≠ some d := fun e => by
    rcases hv3 d e with h | h
    · exact hlg.1 h
    · exact h.2.1 rfl
  refine ⟨v3, w3, hrun, ?_, frozen_of hd1 1, ?_, ⟨⟨?_, ?_, ?_⟩, ?_, fun b hb' => ?_⟩⟩
  · rw [cell_of hd1 1]; rfl
  · obtain ⟨_, ⟨rfl, _⟩ | ⟨g, cap, cur, rfl, _⟩⟩ := hown3 <;> rfl
  · have := heap_setCell_same hd1 1 v3
    simpa using this
  · rw [Below.heap_setCell _ _ _ _ (by exact fun e => hne e.symm)]; exact hb1
  · exact ownsRow_setCell_other hown3 (by exact hv3d) _
  · refine ((hu.alloc (.cells #[.int .i64 i, .string s] 112)).grown hgr (fun k hk _ => .inr (.inr hk))).setCell _ (fun _ => .inl rfl) _
  · rcases hv3 b hb' with h | h
    · exact .inl h
    · exact .inr h.1

set_option maxRecDepth 100000 in
set_option maxHeartbeats 2000000 in
theorem write_any {w : World} {d bb : Nat} {lg : Value} {S : Dsk} (h : DiskAt w d bb lg S) (hfit : S.Fit) (i : Int) (s : ByteArray) (hs : s.size ≤ 140737488355328) :
    Calls Tryz.prog 109 #[.pointer (some ⟨d, 0, none⟩), .int .i64 i, .string s] w fun e w' => ∃ lg', e = .returned (.int .i64 (S.write i s).1) ∧ DStp d bb lg lg' w w' (S.write i s).2 := by
  have hM := may_any h i
  have c0 := cell_of h.d 0
  have c1 := cell_of h.d 1
  have c2 := cell_of h.d 2
  have c3 := cell_of h.d 3
  have c4 := cell_of h.d 4
  have f1 := frozen_of h.d 1
  have f2 := frozen_of h.d 2
  have f4 := frozen_of h.d 4
  simp at c0 c1 c2 c3 c4
  have H := Lib.hid h
  have hdb : d ≠ bb := by
    intro e; have h1 := h.d; have h2 := h.bb; rw [e, h2] at h1; simp at h1
  by_cases h0 : S.may i ≠ 0
  · rw [show S.write i s = (S.may i, S) from if_pos h0]
    have hb : (S.may i != 0) = true := by simpa using h0
    generalize S.may i = m at *
    clear h
    go_enter Tryz.func109, Tryz.ntmps109
    go_wp2_with (go_at_call 105; refine hM.mono ?_; rintro e w' ⟨rfl, rfl⟩)
    go_ret
    exact ⟨_, rfl, H.out, Upd.refl _ _, fun b hb => .inl hb⟩
  · have h0' : S.may i = 0 := by omega
    have hmay : S.down = false ∧ 0 ≤ i ∧ i < S.blocks.length := by
      unfold Dsk.may Dsk.n at h0'
      split at h0'
      · simp at h0'
      · rename_i hdn
        split at h0'
        · simp at h0'
        · exact ⟨by simpa using hdn, by omega, by omega⟩
    obtain ⟨hdown, hi0, hi1⟩ := hmay
    rw [h0'] at hM
    by_cases h1 : s.size ≠ 256
    · rw [show S.write i s = (3, S) by unfold Dsk.write; rw [if_neg h0, if_pos h1]]
      have hb : ((s.size : Int) != 256) = true := by simp; omega
      clear h
      go_enter Tryz.func109, Tryz.ntmps109
      go_wp2_with (go_at_call 105; refine hM.mono ?_; rintro e w' ⟨rfl, rfl⟩)
      go_ret
      exact ⟨_, rfl, H.out, Upd.refl _ _, fun b hb => .inl hb⟩
    · have h1' : s.size = 256 := by omega
      by_cases h2 : S.told = true ∧ S.left = 0
      · rw [show S.write i s = (17, { S with down := true }) by unfold Dsk.write; rw [if_neg h0, if_neg h1, if_pos h2]]
        obtain ⟨ht, hl⟩ := h2
        rw [ht] at c3
        rw [hl] at c2
        have hset := heap_setCell_same h.d 4 (.bool true)
        simp at hset
        have HN : Hid (DiskAt (w.setCell ⟨d, 4, none⟩ (.bool true)) d bb lg { S with down := true }) := by
          refine ⟨hset, ?_, ?_⟩
          · rw [Below.heap_setCell _ _ _ _ (by exact fun e => hdb e.symm)]; exact h.bb
          · exact ownsRow_setCell_other h.lg (by exact (lg_ne h).1) _
        clear h hset h0 h0' h1
        go_enter Tryz.func109, Tryz.ntmps109
        go_wp2_with (go_at_call 105; refine hM.mono ?_; rintro e w' ⟨rfl, rfl⟩)
        go_ret
        exact ⟨_, rfl, HN.out, (Upd.refl _ _).setCell _ (fun _ => .inl rfl) _, fun b hb => .inl hb⟩
      · obtain ⟨k, rfl⟩ := Int.eq_ofNat_of_zero_le hi0
        have hk : k < S.blocks.length := by omega
        have hset := heap_setCell_same h.bb k (.string s)
        rw [show (S.blocks.map Value.string).toArray.setIfInBounds k (.string s) = ((S.blocks.set k s).map Value.string).toArray by simp [List.map_set]] at hset
        obtain ⟨sk, hsk⟩ : ∃ sk, sk = S.blocks[k] := ⟨_, rfl⟩
        have hcb : w.cell? ⟨bb, k, none⟩ = some (.string sk) := by rw [cell_of h.bb k, hsk]; simp [hk]
        have hfb := frozen_of h.bb k
        have hlg := lg_ne h
        cases ht : S.told with
        | false =>
          rw [show S.write k s = (0, { S with left := S.left, blocks := S.blocks.set k s, log := S.log ++ [((k : Int), s)] }) by unfold Dsk.write; rw [if_neg h0, if_neg h1, if_neg h2, ht]; simp]
          obtain ⟨v3, w3, hrun, hc3, hf3, hone, hstp⟩ := write_tail (w := w) (W0 := w.setCell ⟨bb, k, none⟩ (.string s)) (S := S) hdb hlg ((Upd.refl _ _).setCell _ (fun _ => .inr (.inl rfl)) _) hfit.log S.left (S.blocks.set k s) k s
            (by rw [Below.heap_setCell _ _ _ _ (by exact hdb), List.length_set]; exact h.d) hset (ownsRow_setCell_other h.lg (by exact hlg.2) _)
          obtain ⟨ao3, co3, rfl⟩ := ownsRow_slice hstp.at_.lg
          rw [List.length_append] at hstp hrun
          have HSTP := Lib.hid hstp
          simp only [World.size_setCell] at hrun
          have cl : (w.setCell ⟨bb, k, none⟩ (.string s)).cell? ⟨d, 1, none⟩ = some lg := by
            rw [World.cell?_of_block (a := ⟨d, 1, none⟩) (Below.heap_setCell _ _ _ _ (by exact hdb))]; exact c1
          rw [ht] at c3
          clear h hset h0 h0' h1 hstp H hfit h2 hlg hsk
          clear hk
          generalize S.blocks.length = M at *
          go_enter Tryz.func109, Tryz.ntmps109
          go_wp2_with (first
            | (go_at_call 105; refine hM.mono ?_; rintro e w' ⟨rfl, rfl⟩)
            | (at_builtin; refine wpList_append_run hrun rfl rfl rfl rfl rfl ?_))
          go_ret
          exact ⟨_, rfl, HSTP.out⟩
        | true =>
          have hl0 : S.left ≠ 0 := fun e => h2 ⟨ht, e⟩
          have hl1 := hfit.left ht
          rw [show S.write k s = (0, { S with left := S.left - 1, blocks := S.blocks.set k s, log := S.log ++ [((k : Int), s)] }) by unfold Dsk.write; rw [if_neg h0, if_neg h1, if_neg h2, ht]; simp]
          have hs2 := heap_setCell_same h.d 2 (.int .i64 (S.left - 1))
          simp at hs2
          have hb2 : (w.setCell ⟨d, 2, none⟩ (.int .i64 (S.left - 1))).heap[bb]? = some (.cells (S.blocks.map Value.string).toArray 9 (0, 0)) := by
            rw [Below.heap_setCell _ _ _ _ (by exact fun e => hdb e.symm)]; exact h.bb
          have hset2 := heap_setCell_same hb2 k (.string s)
          rw [show (S.blocks.map Value.string).toArray.setIfInBounds k (.string s) = ((S.blocks.set k s).map Value.string).toArray by simp [List.map_set]] at hset2
          have hr2 : (w.setCell ⟨d, 2, none⟩ (.int .i64 (S.left - 1))).ownsRow 0 112 2 lg S.log.length (pageCells S.log) := ownsRow_setCell_other h.lg (by exact hlg.1) _
          obtain ⟨v3, w3, hrun, hc3, hf3, hone, hstp⟩ := write_tail (w := w) (W0 := (w.setCell ⟨d, 2, none⟩ (.int .i64 (S.left - 1))).setCell ⟨bb, k, none⟩ (.string s)) (S := S) hdb hlg (((Upd.refl _ _).setCell _ (fun _ => .inl rfl) _).setCell _ (fun _ => .inr (.inl rfl)) _) hfit.log (S.left - 1) (S.blocks.set k s) k s
            (by rw [Below.heap_setCell _ _ _ _ (by exact hdb), List.length_set]; exact hs2) hset2 (ownsRow_setCell_other hr2 (by exact hlg.2) _)
          obtain ⟨ao3, co3, rfl⟩ := ownsRow_slice hstp.at_.lg
          rw [List.length_append] at hstp hrun
          have HSTP := Lib.hid hstp
          simp only [World.size_setCell] at hrun
          have cl : ((w.setCell ⟨d, 2, none⟩ (.int .i64 (S.left - 1))).setCell ⟨bb, k, none⟩ (.string s)).cell? ⟨d, 1, none⟩ = some lg := by
            rw [World.cell?_of_block (a := ⟨d, 1, none⟩) (Below.heap_setCell _ _ _ _ (by exact hdb)), cell_of hs2 1]; rfl
          have cd : (w.setCell ⟨d, 2, none⟩ (.int .i64 (S.left - 1))).cell? ⟨d, 0, none⟩ = some (.slice (some ⟨bb, 0, none⟩) S.blocks.length S.blocks.length) := by
            rw [cell_of hs2 0]; rfl
          have cb : (w.setCell ⟨d, 2, none⟩ (.int .i64 (S.left - 1))).cell? ⟨bb, k, none⟩ = some (.string sk) := by rw [cell_of hb2 k, hsk]; simp [hk]
          have fb : (w.setCell ⟨d, 2, none⟩ (.int .i64 (S.left - 1))).frozen? ⟨bb, k, none⟩ = false := frozen_of hb2 k
          have hlb : (S.left == 0) = false := by simpa using hl0
          rw [ht] at c3
          clear h hset h0 h0' h1 hstp H hfit h2 hlg hsk hs2 hb2 hset2 hr2
          clear hk
          generalize S.blocks.length = M at *
          generalize S.left = lf at *
          go_enter Tryz.func109, Tryz.ntmps109
          go_wp2_with (first
            | (go_at_call 105; refine hM.mono ?_; rintro e w' ⟨rfl, rfl⟩)
            | (at_builtin; refine wpList_append_run hrun rfl rfl rfl rfl rfl ?_))
          go_ret
          exact ⟨_, rfl, HSTP.out⟩
end Go.Proofs.YtdoankamaobkoaaGreatDoor
