/- slices.Clone, Delete at entries. -/
import Derived.Test.YtmgcaohpbaiiaaaGreatDoorTCopy
import Derived.Deep.RegionLaw
import Derived.Lib.SliceRun
set_option linter.unusedSimpArgs false
set_option linter.unusedVariables false
namespace Go.Proofs.YtmgcaohpbaiiaaaGreatDoor
open Go.RowKit Go.Maps Go.Shelf

set_option maxHeartbeats 1000000 in
set_option maxRecDepth 100000 in
theorem clone_any (w : World) (ao : Option Addr) (c : Nat) (l : List Ent) (hl : ERow w ao l) (hat : ∀ a, ao = some a → ∃ g off, a = ⟨g, off, none⟩) (hnil : ao = none → l = [] ∧ c = 0) (hn : l.length ≤ 1000000) :
    Calls Tryz.prog 80 #[.slice ao l.length c] w fun e w' => ∃ v, e = .returned v ∧ EOwn w' w.heap.size v l ∧ Below w.heap.size w w' := by
  cases ao with
  | none =>
    obtain ⟨rfl, rfl⟩ := hnil rfl
    have hq : ∀ w : World, (binOp .eql 31 (.slice none 0 0) (.slice none 0 0)).run Tryz.prog w = .ok (.bool true) w := fun w => Lib.run_eql_slice_nil w _ _ none 0 0 0 0 Tryz.underlying31
    go_enter Tryz.func80, Tryz.ntmps80
    go_wp2
    go_ret
    exact ⟨_, rfl, EOwn.nil _ _, Below.refl _ _⟩
  | some a =>
    obtain ⟨g, off, rfl⟩ := hat a rfl
    have H0 : Hid (EOwn (w.alloc (.cells #[] 59)) w.heap.size (.slice (some ⟨w.heap.size, 0, none⟩) 0 0) []) := EOwn.of_block (l := []) (heap_alloc_new' w _) (Nat.le_refl _) (Nat.le_refl _) (by unfold maxLen; omega) rfl rfl
    have hB1 : Below w.heap.size w (w.alloc (.cells #[] 59)) := (Below.refl _ w).alloc (Nat.le_refl _) _
    obtain ⟨a2, c2, w3, hr, ho, hg, ha⟩ := ent_append (w.alloc (.cells #[] 59)) w.heap.size _ [] l c (some ⟨g, off, none⟩) H0.out (hl.made hB1) (.inr ⟨g, off, rfl⟩) (by simp; omega) hB1.size
    have HO := Lib.hid ho
    have HB := Lib.hid (hB1.trans (grown_below hg (fun b hb => by simp [Value.ownBlock] at hb; omega) hB1.size))
    simp only [List.length_nil, Nat.zero_add, List.nil_append] at hr HO
    clear ho hg ha H0 hB1 hl hnil
    generalize l.length = n at *
    have hq : ∀ w : World, (binOp .eql 31 (.slice (some ⟨g, off, none⟩) n c) (.slice none 0 0)).run Tryz.prog w = .ok (.bool false) w := fun w => Lib.run_eql_slice_nil w _ _ (some ⟨g, off, none⟩) n c 0 0 Tryz.underlying31
    go_enter Tryz.func80, Tryz.ntmps80
    go_wp2_with (at_builtin; refine wpList_append_run hr rfl rfl rfl rfl rfl ?_)
    go_ret
    exact ⟨_, rfl, HO.out, HB.out⟩
theorem take_drop_len (l : List Ent) {i : Nat} (h : i < l.length) : (l.take i ++ l.drop (i + 1)).length = l.length - 1 := by simp; omega
set_option maxHeartbeats 2000000 in
set_option maxRecDepth 100000 in
theorem delete_any (w : World) (B : Nat) (v : Value) (l : List Ent) (h : EOwn w B v l) (hB : B ≤ w.heap.size) (i : Nat) (hi : i < l.length) (hn : l.length ≤ 1000000) :
    Calls Tryz.prog 79 #[v, .int .i64 i, .int .i64 ((i : Int) + 1)] w fun e w' => ∃ v', e = .returned v' ∧ EOwn w' B v' (l.take i ++ l.drop (i + 1)) ∧ Below B w w' := by
  obtain ⟨ao, c, rfl, -, -⟩ := h.parts
  cases ao with
  | none => rcases h.2 with ⟨_, h0⟩ | ⟨g, cap, cur, hv, _⟩
            · omega
            · simp at hv
  | some a =>
    obtain ⟨g, cur, rfl, -, hbg, hg, hlc, hcm, hcs, hct⟩ := h.block
    have hlt : (l.take i).length = i := by simp; omega
    have hld : (l.drop (i + 1)).length = l.length - (i + 1) := by simp
    obtain ⟨gA, oA, hA, hsrc⟩ : ∃ gA oA, (if c = i + 1 then (some ⟨g, 0, none⟩ : Option Addr) else some ⟨g, (i + 1) * 2, none⟩) = some ⟨gA, oA, none⟩ ∧ ∀ j u, (entCells (l.drop (i + 1)))[j]? = some u → w.drew.cell? ((⟨gA, oA, none⟩ : Addr).add j) = some u := by
      by_cases hc : c = i + 1
      · refine ⟨g, 0, by simp [hc], fun j u hj => ?_⟩
        rw [List.drop_of_length_le (by omega)] at hj
        simp [entCells] at hj
      · refine ⟨g, (i + 1) * 2, by simp [hc], fun j u hj => ?_⟩
        rw [entCells_drop, List.getElem?_drop] at hj
        rw [add_none]
        exact cur_cell (w := w.drew) hg hct hj
    obtain ⟨i0, hi0, hz0, hz1, hz2⟩ := info_parts info_ent
    have hr := run_append_room (P := Tryz.prog) w.drew 31 31 59 i0 Tryz.underlying31 hi0 g i c cur hg ⟨gA, oA, none⟩ (l.length - (i + 1)) (c - (i + 1)) (entCells (l.drop (i + 1))) (by rw [entCells_len, hld, hz1]) hsrc (entCells_one _) (by omega) (by rw [entCells_len, hz1, hcs, hld]; omega)
    rw [hz1] at hr
    have hcut : (entCells (l.drop (i + 1))).length = (l.length - (i + 1)) * 2 := by rw [entCells_len, hld]
    obtain ⟨cur1, hcur1⟩ : ∃ cur1, cur1 = (cur.toList.take (i * 2) ++ entCells (l.drop (i + 1)) ++ cur.toList.drop (i * 2 + (entCells (l.drop (i + 1))).length)).toArray := ⟨_, rfl⟩
    rw [← hcur1] at hr
    have hg1 : (w.drew.setRow g cur1).heap[g]? = some (.cells cur1 59 (0, 0)) := setRow_heap _ _ _ _ _ _ hg
    have hs1 : cur1.size = c * 2 := by rw [hcur1]; simp only [List.size_toArray, List.length_append, List.length_take, List.length_drop, Array.length_toList, hcut, hcs]; omega
    have ht1 : cur1.toList.take ((l.length - 1) * 2) = entCells (l.take i ++ l.drop (i + 1)) := by
      rw [hcur1, entCells_append, entCells_take, ← hct, List.take_take, Nat.min_eq_left (by omega)]
      simp only
      exact List.take_left' (by rw [List.length_append, List.length_take, hcut, Array.length_toList]; omega)
    have hcl := fun ty => run_clear_ent (w.drew.setRow g cur1) ty g ((l.length - 1) * 2) 1 (c - (l.length - 1)) cur1 59 hg1 (by omega) (by omega)
    obtain ⟨cur2, hcur2⟩ : ∃ cur2, cur2 = (cur1.toList.take ((l.length - 1) * 2) ++ List.replicate (1 * 2) (Value.string ⟨#[]⟩) ++ cur1.toList.drop ((l.length - 1) * 2 + 1 * 2)).toArray := ⟨_, rfl⟩
    rw [← hcur2] at hcl
    have hg2 : ((w.drew.setRow g cur1).setRow g cur2).heap[g]? = some (.cells cur2 59 (0, 0)) := setRow_heap _ _ _ _ _ _ hg1
    have HO : Hid (EOwn ((w.drew.setRow g cur1).setRow g cur2) B (.slice (some ⟨g, 0, none⟩) (l.length - 1) c) (l.take i ++ l.drop (i + 1))) := by
      have := EOwn.of_block (B := B) (l := l.take i ++ l.drop (i + 1)) hg2 hbg (cap := c) (by rw [take_drop_len l hi]; omega) hcm (by rw [hcur2]; simp only [List.size_toArray, List.length_append, List.length_take, List.length_drop, List.length_replicate, Array.length_toList, hs1]; omega) (by
        rw [take_drop_len l hi, ← ht1, hcur2]
        simp only [List.append_assoc]
        exact List.take_left' (by have e := hs1; rw [← Array.length_toList] at e; rw [List.length_take, e]; omega))
      rw [take_drop_len l hi] at this
      exact this
    have HB : Hid (Below B w ((w.drew.setRow g cur1).setRow g cur2)) := below_setRow (below_setRow ((Below.refl _ _).drew) hbg _) hbg _
    clear hsrc hcut hcur1 hg1 hs1 ht1 hcur2 hg2 h hct hg hcs hi0 hz0 hz1 hz2 hlt hld
    generalize (w.drew.setRow g cur1) = W1 at *
    generalize W1.setRow g cur2 = W2 at *
    obtain ⟨n, hn1⟩ : ∃ n, l.length = n + 1 := ⟨l.length - 1, by omega⟩
    rw [hn1] at hi hn hlc hr hcl HO ⊢
    simp only [Nat.add_sub_cancel] at hcl HO
    have e1 : n + 1 - (i + 1) = n - i := by omega
    have e2 : i + (n - i) = n := by omega
    rw [e1, e2] at hr
    have e3 : i ≤ c := by omega
    have e4 : i + 1 ≤ c := by omega
    have e5 : i + 1 ≤ n + 1 := by omega
    have e7 : (0 : Int) ≤ (i : Int) + 1 := by omega
    have e6 : (i : Int) + 1 ≤ (n : Int) + 1 := by omega
    go_enter Tryz.func79, Tryz.ntmps79
    go_upto_region 5 with fail
    have e8 : ¬ c = n := by omega
    have e9 : n ≤ n + 1 := by omega
    have e10 : n + 1 - n = 1 := by omega
    go_region_law (refine step_append_run hr rfl rfl rfl rfl rfl ?_)
    all_goals
      go_wp2
      trace_state
      go_ret
      exact ⟨_, rfl, HO.out, HB.out⟩
end Go.Proofs.YtmgcaohpbaiiaaaGreatDoor
