/- The reference's disk: Read, Write, Cut. -/
import Derived.Test.YtdoankamaobkoaaGreatQList
set_option linter.unusedSimpArgs false
set_option linter.unusedVariables false
namespace Go.Proofs.YtdoankamaobkoaaGreat
open Go.RowKit Go.Maps Go.Shelf

structure QD (w : World) (q : Nat) (bv lgv : Value) (D : Dsk) : Prop where
  q : w.heap[q]? = some (.cells #[bv, lgv, .bool D.told, .int .i64 D.left, .bool D.down] 59 (0, 0))
  blk : w.ownsRow 0 9 1 bv D.blocks.length (D.blocks.map Value.string)
  log : w.ownsRow 0 78 2 lgv D.log.length (pageCells D.log)
def qfp (q : Nat) (bv lgv : Value) (b : Nat) : Prop := b = q ∨ bv.ownBlock = some b ∨ lgv.ownBlock = some b
/-- behind a call: the disk turned, its own blocks alone, its log where it was or new -/
structure QStp (q : Nat) (bv lgv lgv' : Value) (w w' : World) (D' : Dsk) : Prop where
  at_ : QD w' q bv lgv' D'
  upd : Upd (qfp q bv lgv) w w'
  log : ∀ b, lgv'.ownBlock = some b → lgv.ownBlock = some b ∨ (w.heap.size ≤ b ∧ b < w'.heap.size)
section
variable {w w' : World} {q : Nat} {bv lgv : Value} {D : Dsk}
theorem QD.blk_ne (h : QD w q bv lgv D) : bv.ownBlock ≠ some q := fun e => by
  obtain ⟨cs, hcs⟩ := ownsRow_type h.blk e
  rw [h.q] at hcs; simp at hcs
theorem QD.log_ne (h : QD w q bv lgv D) : lgv.ownBlock ≠ some q := fun e => by
  obtain ⟨cs, hcs⟩ := ownsRow_type h.log e
  rw [h.q] at hcs; simp at hcs
theorem QD.bl (h : QD w q bv lgv D) : ∀ b, bv.ownBlock = some b → lgv.ownBlock ≠ some b := fun b hb e => by
  obtain ⟨cs, hcs⟩ := ownsRow_type h.blk hb
  obtain ⟨cs', hcs'⟩ := ownsRow_type h.log e
  rw [hcs] at hcs'; simp at hcs'
theorem QD.fp_lt (h : QD w q bv lgv D) {b : Nat} (hb : qfp q bv lgv b) : b < w.heap.size := by
  rcases hb with rfl | hb | hb
  · exact lt_of h.q
  · exact (h.blk.lt b hb).2
  · exact (h.log.lt b hb).2
theorem QD.keep (h : QD w q bv lgv D) (hk : ∀ b, qfp q bv lgv b → w'.heap[b]? = w.heap[b]?) : QD w' q bv lgv D :=
  ⟨(hk _ (.inl rfl)).trans h.q, ownsRow_congr h.blk fun b hb => hk b (.inr (.inl hb)), ownsRow_congr h.log fun b hb => hk b (.inr (.inr hb))⟩
theorem QD.made (h : QD w q bv lgv D) (hB : Below w.heap.size w w') : QD w' q bv lgv D := h.keep fun b hb => hB.block b (h.fp_lt hb)
theorem QD.set (h : QD w q bv lgv D) (i : Nat) (v : Value) (D' : Dsk) (hb : D'.blocks = D.blocks) (hl : D'.log = D.log) (hc : (#[bv, lgv, .bool D.told, .int .i64 D.left, .bool D.down] : Array Value).setIfInBounds i v = #[bv, lgv, .bool D'.told, .int .i64 D'.left, .bool D'.down]) :
    QD (w.setCell ⟨q, i, none⟩ v) q bv lgv D' := by
  have hset := heap_setCell_same h.q i v
  rw [hc] at hset
  exact ⟨hset, by rw [hb]; exact ownsRow_setCell_other h.blk (by exact h.blk_ne) _, by rw [hl]; exact ownsRow_setCell_other h.log (by exact h.log_ne) _⟩
theorem QD.block (h : QD w q bv lgv D) {k : Nat} (hk : k < D.blocks.length) (s : ByteArray) : ∃ g cap, bv = .slice (some ⟨g, 0, none⟩) D.blocks.length cap ∧ w.cell? ⟨g, k, none⟩ = some (.string D.blocks[k]) ∧ w.frozen? ⟨g, k, none⟩ = false ∧ QD (w.setCell ⟨g, k, none⟩ (.string s)) q bv lgv { D with blocks := D.blocks.set k s } := by
  rcases h.blk.2 with ⟨_, h0⟩ | ⟨g, cap, cur, rfl, _⟩
  · omega
  · refine ⟨g, cap, rfl, ?_, h.blk.frozenAt k, ?_⟩
    · rw [h.blk.cellAt k (by omega), List.getElem?_map, List.getElem?_eq_getElem hk]; rfl
    · have hs := (h.blk.stored k (.string s)).1
      refine ⟨?_, by show World.ownsRow _ _ _ _ _ _ _; rw [List.length_set, List.map_set]; exact hs, ownsRow_setCell_other h.log (fun e => h.bl g (by simp [Value.ownBlock]) e) _⟩
      rw [Below.heap_setCell _ _ _ _ (by intro e; exact h.blk_ne (by simp only [Value.ownBlock]; exact congrArg some e.symm))]
      simp only [List.length_set]
      exact h.q
theorem QD.push (h : QD w q bv lgv D) (i : Int) (s : ByteArray) (hl : D.log.length < 1000000000000) :
    ∃ ao co w3, (Builtin.append_ #[53, 53] 53 #[lgv, .slice (some ⟨w.heap.size, 0, none⟩) 1 1]).run Tryz.prog (w.alloc (.cells #[.int .i64 i, .string s] 78)) = .ok (.slice ao (D.log.length + 1) co) w3 ∧
      w3.cell? ⟨q, 1, none⟩ = some lgv ∧ w3.frozen? ⟨q, 1, none⟩ = false ∧ QStp q bv lgv (.slice ao (D.log.length + 1) co) w (w3.setCell ⟨q, 1, none⟩ (.slice ao (D.log.length + 1) co)) { D with log := D.log ++ [(i, s)] } := by
  have hB : Below w.heap.size w (w.alloc (.cells #[.int .i64 i, .string s] 78)) := (Below.refl _ w).alloc (Nat.le_refl _) _
  have hW := h.made hB
  obtain ⟨ao, co, w3, hr, ho, hg, hb⟩ := many_append 78 53 _ 2 24 info_page Tryz.underlying53 rfl (by omega) (by omega) _ 0 lgv D.log.length (pageCells D.log) hW.log ⟨w.heap.size, 0, none⟩ 1 1 (pageCells [(i, s)]) (by simp [pageCells])
    (fun k u hu => by
      rw [add_none, Nat.zero_add, cell_new]
      simpa [pageCells] using hu)
    (pageCells_one _) (by omega) (Nat.zero_le _)
  have hql := lt_of h.q
  have hq3 : w3.heap[q]? = some (.cells #[bv, lgv, .bool D.told, .int .i64 D.left, .bool D.down] 59 (0, 0)) := (hg.block q (by simp; omega) (fun e => h.log_ne e.symm)).trans ((hB.block q hql).trans h.q)
  have hbl3 : w3.ownsRow 0 9 1 bv D.blocks.length (D.blocks.map Value.string) := ownsRow_congr h.blk fun b hbb => by
    have hlt := (h.blk.lt b hbb).2
    exact (hg.block b (by simp; omega) (fun e => h.bl b hbb e.symm)).trans (hB.block b hlt)
  have hnew : ∀ b, (Value.slice ao (D.log.length + 1) co).ownBlock = some b → lgv.ownBlock = some b ∨ (w.heap.size ≤ b ∧ b < w3.heap.size) := fun b hbb => by
    have h3 := (ho.lt b hbb).2
    rcases hb with hb | hb
    · rw [hb] at hbb; exact .inl hbb
    · rw [hb] at hbb; simp at hbb; exact .inr ⟨by omega, h3⟩
  have hnq : (Value.slice ao (D.log.length + 1) co).ownBlock ≠ some q := fun e => by
    rcases hnew q e with h' | h'
    · exact h.log_ne h'
    · omega
  refine ⟨ao, co, w3, hr, by rw [cell_of hq3]; rfl, frozen_of hq3 1, ⟨⟨?_, ?_, ?_⟩, ?_, fun b hbb => (hnew b hbb).imp id (fun h => by simpa using h)⟩⟩
  · have := heap_setCell_same hq3 1 (.slice ao (D.log.length + 1) co)
    simpa using this
  · exact ownsRow_setCell_other hbl3 (by exact h.blk_ne) _
  · have ho' : w3.ownsRow 0 78 2 (.slice ao (D.log.length + 1) co) (D.log ++ [(i, s)]).length (pageCells (D.log ++ [(i, s)])) := by
      rw [pageCells_append, List.length_append]; exact ho
    exact ownsRow_setCell_other ho' (by exact hnq) _
  · have hu : Upd (qfp q bv lgv) w (w.alloc (.cells #[.int .i64 i, .string s] 78)) := (Upd.refl _ w).alloc _
    exact (hu.grown hg (fun k hk _ => .inr (.inr hk))).setCell _ (fun _ => .inl rfl) _
set_option maxHeartbeats 1000000 in
theorem qread_any (h : QD w q bv lgv D) (i : Int) :
    Calls Tryz.prog 74 #[.pointer (some ⟨q, 0, none⟩), .int .i64 i] w fun e w' => e = .returned (.tuple #[.string (D.read i).1, .int .i64 (D.read i).2]) ∧ w = w' := by
  have c0 := cell_of h.q 0
  have c4 := cell_of h.q 4
  simp at c0 c4
  cases hd : D.down with
  | true =>
    rw [hd] at c4
    have e : D.read i = (⟨#[]⟩, 17) := by simp [Dsk.read, Dsk.may, hd]
    rw [e]
    clear h c0
    go_enter Tryz.func74, Tryz.ntmps74
    go_wp2
    go_ret2
    exact ⟨rfl, rfl⟩
  | false =>
    rw [hd] at c4
    obtain ⟨ao, co, rfl⟩ := ownsRow_slice h.blk
    by_cases h0 : i < 0
    · have e : D.read i = (⟨#[]⟩, 1) := by simp [Dsk.read, Dsk.may, Dsk.n, hd, h0]
      rw [e]
      clear h
      go_enter Tryz.func74, Tryz.ntmps74
      go_wp2
      go_ret2
      exact ⟨rfl, rfl⟩
    · by_cases h1 : (D.blocks.length : Int) ≤ i
      · have e : D.read i = (⟨#[]⟩, 1) := by simp [Dsk.read, Dsk.may, Dsk.n, hd, h1]
        rw [e]
        have h0' : 0 ≤ i := by omega
        clear h
        generalize D.blocks.length = n at *
        go_enter Tryz.func74, Tryz.ntmps74
        go_wp2
        go_ret2
        exact ⟨rfl, rfl⟩
      · obtain ⟨k, rfl⟩ := Int.eq_ofNat_of_zero_le (show 0 ≤ i by omega)
        have hk : k < D.blocks.length := by omega
        obtain ⟨g, cap, he, hc, _, _⟩ := h.block hk ⟨#[]⟩
        simp at he
        obtain ⟨rfl, rfl⟩ := he
        have e : D.read k = (D.blocks[k], 0) := by
          have hm : D.may k = 0 := by unfold Dsk.may Dsk.n; rw [if_neg (by simp [hd]), if_neg (by omega)]
          unfold Dsk.read
          rw [if_pos hm]
          simp [List.getD_eq_getElem?_getD, List.getElem?_eq_getElem hk]
        rw [e]
        clear h e
        generalize D.blocks[k] = s at *
        generalize D.blocks.length = n at *
        go_enter Tryz.func74, Tryz.ntmps74
        go_wp2
        go_ret2
        exact ⟨rfl, rfl⟩
set_option maxHeartbeats 1000000 in
theorem qcut_any (h : QD w q bv lgv D) (n : Int) :
    Calls Tryz.prog 51 #[.pointer (some ⟨q, 0, none⟩), .int .i64 n] w fun e w' => e = .returned (.tuple #[]) ∧ QStp q bv lgv lgv w w' { D with told := decide (0 ≤ n), left := n } := by
  have c2 := cell_of h.q 2
  have c3 := cell_of h.q 3
  have f2 := frozen_of h.q 2
  simp at c2 c3
  have h2 := h.set 2 (.bool (decide (0 ≤ n))) { D with told := decide (0 ≤ n) } rfl rfl (by simp)
  have e3 := frozen_of h2.q 3
  have d3 := cell_of h2.q 3
  simp at d3
  have h3 := h2.set 3 (.int .i64 n) { D with told := decide (0 ≤ n), left := n } rfl rfl (by simp)
  have HST : Hid (QStp q bv lgv lgv w ((w.setCell ⟨q, 2, none⟩ (.bool (decide (0 ≤ n)))).setCell ⟨q, 3, none⟩ (.int .i64 n)) { D with told := decide (0 ≤ n), left := n }) :=
    ⟨h3, ((Upd.refl _ w).setCell _ (fun _ => .inl rfl) _).setCell _ (fun _ => .inl rfl) _, fun b hb => .inl hb⟩
  clear h h2 h3
  go_enter Tryz.func51, Tryz.ntmps51
  go_wp2
  go_end0
  exact ⟨rfl, HST.out⟩
theorem QStp.refl (h : QD w q bv lgv D) : QStp q bv lgv lgv w w D := ⟨h, Upd.refl _ _, fun b hb => .inl hb⟩
set_option maxHeartbeats 4000000 in
set_option maxRecDepth 100000 in
theorem qwrite_any (h : QD w q bv lgv D) (hfit : D.Fit) (i : Int) (s : ByteArray) (hs : s.size ≤ 140737488355328) :
    Calls Tryz.prog 128 #[.pointer (some ⟨q, 0, none⟩), .int .i64 i, .string s] w fun e w' => e = .returned (.int .i64 (D.write i s).1) ∧ ∃ lgv', QStp q bv lgv lgv' w w' (D.write i s).2 := by
  have c0 := cell_of h.q 0
  have c1 := cell_of h.q 1
  have c2 := cell_of h.q 2
  have c3 := cell_of h.q 3
  have c4 := cell_of h.q 4
  have f3 := frozen_of h.q 3
  have f4 := frozen_of h.q 4
  simp at c0 c1 c2 c3 c4
  have H := Lib.hid h
  obtain ⟨ao, co, rfl⟩ := ownsRow_slice h.blk
  cases hd : D.down with
  | true =>
    have e : D.write i s = (17, D) := by simp [Dsk.write, Dsk.may, hd]
    rw [hd] at c4
    rw [e]
    clear h c0 c1 c2 c3 e
    go_enter Tryz.func128, Tryz.ntmps128
    go_wp2
    go_ret
    exact ⟨rfl, _, QStp.refl H.out⟩
  | false =>
    rw [hd] at c4
    by_cases h0 : i < 0
    · have e : D.write i s = (1, D) := by simp [Dsk.write, Dsk.may, Dsk.n, hd, h0]
      rw [e]
      clear h c1 c2 c3 e
      go_enter Tryz.func128, Tryz.ntmps128
      go_wp2
      go_ret
      exact ⟨rfl, _, QStp.refl H.out⟩
    · by_cases h1 : (D.blocks.length : Int) ≤ i
      · have e : D.write i s = (1, D) := by simp [Dsk.write, Dsk.may, Dsk.n, hd, h1]
        rw [e]
        have h0' : 0 ≤ i := by omega
        clear h c1 c2 c3 e
        go_enter Tryz.func128, Tryz.ntmps128
        go_wp2
        go_ret
        exact ⟨rfl, _, QStp.refl H.out⟩
      · obtain ⟨k, rfl⟩ := Int.eq_ofNat_of_zero_le (show 0 ≤ i by omega)
        have hk : k < D.blocks.length := by omega
        have hm : D.may k = 0 := by unfold Dsk.may Dsk.n; rw [if_neg (by simp [hd]), if_neg (by omega)]
        by_cases hz : s.size ≠ 256
        · have e : D.write k s = (3, D) := by unfold Dsk.write; rw [if_neg (by rw [hm]; simp), if_pos hz]
          have hb : ((s.size : Int) != 256) = true := by simp; omega
          rw [e]
          clear h c1 c2 c3 e hm
          go_enter Tryz.func128, Tryz.ntmps128
          go_wp2
          go_ret
          exact ⟨rfl, _, QStp.refl H.out⟩
        · have hz' : s.size = 256 := by omega
          by_cases ht : D.told = true ∧ D.left = 0
          · have e : D.write k s = (17, { D with down := true }) := by unfold Dsk.write; rw [if_neg (by rw [hm]; simp), if_neg hz, if_pos ht]
            rw [ht.1] at c2
            rw [ht.2] at c3
            have HN : Hid (QStp q (.slice ao D.blocks.length co) lgv lgv w (w.setCell ⟨q, 4, none⟩ (.bool true)) { D with down := true }) :=
              ⟨h.set 4 (.bool true) _ rfl rfl (by simp), (Upd.refl _ w).setCell _ (fun _ => .inl rfl) _, fun b hb => .inl hb⟩
            rw [e]
            clear h c1 e hm ht
            go_enter Tryz.func128, Tryz.ntmps128
            go_wp2
            go_ret
            exact ⟨rfl, _, HN.out⟩
          · have hlog := hfit.log
            cases htd : D.told with
            | false =>
              have e : D.write k s = (0, { D with left := D.left, blocks := D.blocks.set k s, log := D.log ++ [((k : Int), s)] }) := by unfold Dsk.write; rw [if_neg (by rw [hm]; simp), if_neg hz, if_neg ht, htd]; simp
              rw [htd] at c2
              obtain ⟨g, cap, he, hc, hfz, hB⟩ := h.block hk s
              simp at he
              obtain ⟨rfl, rfl⟩ := he
              obtain ⟨a3, o3, w3, hr, p1, p2, hst⟩ := hB.push k s (by show D.log.length < _; omega)
              have e1 := cell_of hB.q 1
              simp at e1
              have HST : Hid (QStp q (.slice (some ⟨g, 0, none⟩) D.blocks.length co) lgv (.slice a3 (D.log.length + 1) o3) w (w3.setCell ⟨q, 1, none⟩ (.slice a3 (D.log.length + 1) o3)) { D with left := D.left, blocks := D.blocks.set k s, log := D.log ++ [((k : Int), s)] }) :=
                ⟨hst.at_, ((Upd.refl _ w).setCell ⟨g, k, none⟩ (fun _ => .inr (.inl rfl)) _).trans hst.upd, fun b hb => (hst.log b hb).imp id (fun h => ⟨by simpa using h.1, h.2⟩)⟩
              have HR := Lib.hid hr
              rw [e]
              clear h e hm ht hB hst hr c1
              simp only [World.size_setCell] at HR
              generalize D.blocks[k] = old at *
              go_enter Tryz.func128, Tryz.ntmps128
              go_wp2_with (at_builtin; refine wpList_append_run HR.out rfl rfl rfl rfl rfl ?_)
              go_ret
              refine ⟨rfl, .slice a3 (D.log.length + 1) o3, ?_⟩
              have HO := HST.out
              simp only [htd, hd] at HO ⊢
              exact HO
            | true =>
              have hl0 : D.left ≠ 0 := fun e => ht ⟨htd, e⟩
              have hl1 := hfit.left htd
              have e : D.write k s = (0, { D with left := D.left - 1, blocks := D.blocks.set k s, log := D.log ++ [((k : Int), s)] }) := by unfold Dsk.write; rw [if_neg (by rw [hm]; simp), if_neg hz, if_neg ht, htd]; simp
              rw [htd] at c2
              have h1' := h.set 3 (.int .i64 (D.left - 1)) { D with left := D.left - 1 } rfl rfl (by simp)
              obtain ⟨g, cap, he, hc, hfz, hB⟩ := h1'.block (k := k) hk s
              have he' := he
              simp at he
              obtain ⟨rfl, rfl⟩ := he
              obtain ⟨a3, o3, w3, hr, p1, p2, hst⟩ := hB.push k s (by show D.log.length < _; omega)
              have e1 := cell_of hB.q 1
              simp at e1
              have e0 := cell_of h1'.q 0
              simp at e0
              have HST : Hid (QStp q (.slice (some ⟨g, 0, none⟩) D.blocks.length co) lgv (.slice a3 (D.log.length + 1) o3) w (w3.setCell ⟨q, 1, none⟩ (.slice a3 (D.log.length + 1) o3)) { D with left := D.left - 1, blocks := D.blocks.set k s, log := D.log ++ [((k : Int), s)] }) :=
                ⟨hst.at_, (((Upd.refl _ w).setCell ⟨q, 3, none⟩ (fun _ => .inl rfl) _).setCell ⟨g, k, none⟩ (fun _ => .inr (.inl rfl)) _).trans hst.upd, fun b hb => (hst.log b hb).imp id (fun h => ⟨by simpa using h.1, h.2⟩)⟩
              have HR := Lib.hid hr
              have hlb : (D.left == 0) = false := by simpa using hl0
              rw [e]
              clear h e hm ht hB hst hr c1 h1' he'
              simp only [World.size_setCell] at HR
              dsimp only at hc
              generalize D.blocks[k] = old at *
              generalize D.left = lf at *
              go_enter Tryz.func128, Tryz.ntmps128
              go_wp2_with (at_builtin; refine wpList_append_run HR.out rfl rfl rfl rfl rfl ?_)
              go_ret
              refine ⟨rfl, .slice a3 (D.log.length + 1) o3, ?_⟩
              have HO := HST.out
              simp only [htd, hd] at HO ⊢
              exact HO
end
end Go.Proofs.YtdoankamaobkoaaGreat
