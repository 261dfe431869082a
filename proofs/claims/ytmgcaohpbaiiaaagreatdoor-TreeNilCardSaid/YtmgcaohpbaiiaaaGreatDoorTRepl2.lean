/- slices.Replace of one entry by one or two, in place; all cases. -/
import Derived.Test.YtmgcaohpbaiiaaaGreatDoorTRepl
set_option linter.unusedSimpArgs false
set_option linter.unusedVariables false
namespace Go.Proofs.YtmgcaohpbaiiaaaGreatDoor
open Go.RowKit Go.Maps Go.Shelf Go.Builtin

set_option maxHeartbeats 4000000 in
set_option maxRecDepth 100000 in
/-- not the last one, by one -/
theorem replace_one (w : World) (B g c : Nat) (l m : List Ent) (h : EOwn w B (.slice (some ⟨g, 0, none⟩) l.length c) l) (i : Nat) (hi : i + 1 < l.length) (vb vc : Nat) (hm : ERow w (some ⟨vb, 0, none⟩) m) (hm1 : m.length = 1) (hne : vb ≠ g) (hn : l.length ≤ 100000) :
    Calls Tryz.prog 86 #[.slice (some ⟨g, 0, none⟩) l.length c, .int .i64 i, .int .i64 ((i : Int) + 1), .slice (some ⟨vb, 0, none⟩) m.length vc] w fun e w' => ∃ v', e = .returned v' ∧ EOwn w' B v' (repL l i m) ∧ Below B w w' := by
  obtain ⟨g', cur, e, -, hbg, hg, hlc, hcm, hcs, hct⟩ := h.block
  simp at e
  subst e
  obtain ⟨n, hnl⟩ : ∃ n, l.length = n := ⟨_, rfl⟩
  have hld : (l.drop (i + 1)).length = n - (i + 1) := by rw [List.length_drop, hnl]
  have hlt : (l.take i).length = i := by rw [List.length_take]; omega
  have cD : (entCells (l.drop (i + 1))).length = (n - (i + 1)) * 2 := by rw [entCells_len, hld]
  have cA : (entCells (l.take i)).length = i * 2 := by rw [entCells_len, hlt]
  have cM : (entCells m).length = 2 := by rw [entCells_len, hm1]
  have hclen : cur.toList.length = c * 2 := by rw [Array.length_toList]; exact hcs
  have hA : cur.toList.take (i * 2) = entCells (l.take i) := by rw [entCells_take, ← hct, List.take_take, Nat.min_eq_left (by omega)]
  have h1 := run_copy_ent w.drew g (i * 2) (n - i) (c - i) ⟨vb, 0, none⟩ 1 vc 1 cur 59 (entCells m) hg (by simp only [Nat.min_def]; split <;> omega) (by omega) (fun j u hj => by
    obtain ⟨g', off', e, hcj⟩ := hm j u hj
    simp at e
    obtain ⟨rfl, rfl⟩ := e
    rw [add_none]; exact hcj) (by rw [cM, hcs]; omega) (entCells_one _)
  obtain ⟨cur1, hcur1⟩ : ∃ cur1, cur1 = (cur.toList.take (i * 2) ++ entCells m ++ cur.toList.drop (i * 2 + (entCells m).length)).toArray := ⟨_, rfl⟩
  rw [← hcur1] at h1
  have hg1 : (w.drew.setRow g cur1).heap[g]? = some (.cells cur1 59 (0, 0)) := setRow_heap _ _ _ _ _ _ hg
  have hs1 : cur1.size = c * 2 := by rw [hcur1]; simp only [List.size_toArray, List.length_append, List.length_take, List.length_drop, hclen, cM]; omega
  have hsrc2 : ∀ j u, (entCells (l.drop (i + 1)))[j]? = some u → (w.drew.setRow g cur1).drew.cell? ((⟨g, (i + 1) * 2, none⟩ : Addr).add j) = some u := fun j u hj => by
    have hjl := (List.getElem?_eq_some_iff.1 hj).1
    rw [cD] at hjl
    rw [add_none, cell_of (w := (w.drew.setRow g cur1).drew) hg1, hcur1]
    rw [List.getElem?_toArray, List.getElem?_append_right (by simp only [List.length_append, List.length_take, hclen, cM]; omega)]
    simp only [List.length_append, List.length_take, hclen, cM]
    rw [Nat.min_eq_left (by omega), List.getElem?_drop, show i * 2 + 2 + ((i + 1) * 2 + j - (i * 2 + 2)) = (i + 1) * 2 + j by omega]
    rw [entCells_drop, List.getElem?_drop] at hj
    have := cur_cell hg hct hj
    rw [cell_of hg, ← Array.getElem?_toList] at this
    exact this
  have h2 : ∀ dc sc, _ := fun dc sc => run_copy_ent (w.drew.setRow g cur1).drew g ((i + 1) * 2) (n - (i + 1)) dc ⟨g, (i + 1) * 2, none⟩ (n - (i + 1)) sc (n - (i + 1)) cur1 59 (entCells (l.drop (i + 1))) hg1 (Nat.min_self _) cD hsrc2 (by rw [cD, hs1]; omega) (entCells_one _)
  obtain ⟨cur2, hcur2⟩ : ∃ cur2, cur2 = (cur1.toList.take ((i + 1) * 2) ++ entCells (l.drop (i + 1)) ++ cur1.toList.drop ((i + 1) * 2 + (entCells (l.drop (i + 1))).length)).toArray := ⟨_, rfl⟩
  rw [← hcur2] at h2
  have hg2 : ((w.drew.setRow g cur1).drew.setRow g cur2).heap[g]? = some (.cells cur2 59 (0, 0)) := setRow_heap _ _ _ _ _ _ hg1
  have hclen1 : cur1.toList.length = c * 2 := by rw [Array.length_toList]; exact hs1
  have ht2 := (two_copies cur.toList (entCells (l.take i)) (entCells m) (entCells (l.drop (i + 1))) (by rw [cA]; exact hA) (by rw [cA, cD, cM, hclen]; omega)).2
  rw [cA] at ht2
  have HO : Hid (EOwn ((w.drew.setRow g cur1).drew.setRow g cur2) B (.slice (some ⟨g, 0, none⟩) n c) (repL l i m)) := by
    have hL : (repL l i m).length = n := by unfold repL; rw [List.length_append, List.length_append, hlt, hld, hm1]; omega
    have := EOwn.of_block (B := B) (l := repL l i m) hg2 hbg (cap := c) (by rw [hL]; omega) hcm (by rw [hcur2]; simp only [List.size_toArray, List.length_append, List.length_take, List.length_drop, cD, hclen1]; omega) (by
      rw [hL]
      unfold repL
      rw [entCells_append, entCells_append, hcur2, hcur1]
      rw [show n * 2 = i * 2 + (entCells m).length + (entCells (l.drop (i + 1))).length by rw [cD, cM]; omega, show (i + 1) * 2 = i * 2 + (entCells m).length by rw [cM]; omega]
      exact ht2)
    rw [hL] at this
    exact this
  have HB : Hid (Below B w ((w.drew.setRow g cur1).drew.setRow g cur2)) := below_setRow (below_setRow ((Below.refl _ _).drew) hbg _).drew hbg _
  have h3 := fun ty ao c => run_clear_none ((w.drew.setRow g cur1).drew.setRow g cur2) ty ao c
  clear hsrc2 hcur1 hg1 hs1 hcur2 hg2 hclen hclen1 ht2 hA cA cD cM hld hlt h hct hg hcs hm
  rw [hnl] at hi hn hlc ⊢
  rw [hm1]
  have H2 := Lib.hid h2
  clear h2
  have h2 := H2.out (c - (i + 1)) (c - (i + 1))
  generalize (w.drew.setRow g cur1) = W1 at *
  generalize W1.drew.setRow g cur2 = W2 at *
  clear hnl hm1
  have e1 : ¬ c = i + 1 := by omega
  have e2 : ¬ c = i := by omega
  have e4 : i ≤ c := by omega
  have e5 : ¬ ((i : Int) + 1 = (n : Int)) := by omega
  have e7 : (i : Int) + 1 ≤ (n : Int) := by omega
  have e7b : (i : Int) + 1 ≤ (c : Int) := by omega
  have e8 : (0 : Int) ≤ (i : Int) + 1 := by omega
  have e9 : (i : Int) + 1 + ((n - (i + 1) : Nat) : Int) = (n : Int) := by omega
  have e9b : IntKind.i64.wrap ((i : Int) + 1 + ((n - (i + 1) : Nat) : Int)) = (n : Int) := by rw [IntKind.wrap_i64]; omega
  have e9d : IntKind.i64.wrap ((i : Int) + 1) = (i : Int) + 1 := by rw [IntKind.wrap_i64]; omega
  have e10 : ¬ ((c : Int) < (n : Int)) := by omega
  have e11 : i ≤ n := by omega
  have e12 : n ≤ c := by omega
  go_enter Tryz.func86, Tryz.ntmps86
  go_wp2_with fail
  go_region
  all_goals
    go_wp2_with fail
    go_region
    all_goals
      go_wp2
      all_goals
        go_ret
        first
          | exact ⟨_, rfl, HO.out, HB.out⟩
          | (have hcn : c = n := by assumption
             have HO2 := HO.out
             rw [hcn] at HO2
             exact ⟨_, rfl, HO2, HB.out⟩)
set_option maxHeartbeats 4000000 in
set_option maxRecDepth 100000 in
/-- not the last one, by two, where there is room -/
theorem replace_two (w : World) (B g c : Nat) (l m : List Ent) (h : EOwn w B (.slice (some ⟨g, 0, none⟩) l.length c) l) (i : Nat) (hi : i + 1 < l.length) (vb vc : Nat) (hm : ERow w (some ⟨vb, 0, none⟩) m) (hm2 : m.length = 2) (hne : vb ≠ g) (hc : l.length + 1 ≤ c) (curV : Array Value) (hV : w.heap[vb]? = some (.cells curV 59 (0, 0))) (hV0 : curV.size ≠ 0) (hn : l.length ≤ 100000) :
    Calls Tryz.prog 86 #[.slice (some ⟨g, 0, none⟩) l.length c, .int .i64 i, .int .i64 ((i : Int) + 1), .slice (some ⟨vb, 0, none⟩) m.length vc] w fun e w' => ∃ v', e = .returned v' ∧ EOwn w' B v' (repL l i m) ∧ Below B w w' := by
  obtain ⟨g', cur, e, -, hbg, hg, hlc, hcm, hcs, hct⟩ := h.block
  simp at e
  subst e
  obtain ⟨n, hnl⟩ : ∃ n, l.length = n := ⟨_, rfl⟩
  have hld : (l.drop (i + 1)).length = n - (i + 1) := by rw [List.length_drop, hnl]
  have hlt : (l.take i).length = i := by rw [List.length_take]; omega
  have cD : (entCells (l.drop (i + 1))).length = (n - (i + 1)) * 2 := by rw [entCells_len, hld]
  have cA : (entCells (l.take i)).length = i * 2 := by rw [entCells_len, hlt]
  have cM : (entCells m).length = 4 := by rw [entCells_len, hm2]
  have hclen : cur.toList.length = c * 2 := by rw [Array.length_toList]; exact hcs
  have hA : cur.toList.take (i * 2) = entCells (l.take i) := by rw [entCells_take, ← hct, List.take_take, Nat.min_eq_left (by omega)]
  have h1 : ∀ sc, _ := fun sc => run_copy_ent w.drew.drew g ((i + 2) * 2) (n - (i + 1)) (c - (i + 2)) ⟨g, (i + 1) * 2, none⟩ (n - (i + 1)) sc (n - (i + 1)) cur 59 (entCells (l.drop (i + 1))) hg (Nat.min_self _) cD (fun j u hj => by
    rw [entCells_drop, List.getElem?_drop] at hj
    rw [add_none]
    exact cur_cell (w := w.drew.drew) hg hct hj) (by rw [cD, hcs]; omega) (entCells_one _)
  obtain ⟨cur1, hcur1⟩ : ∃ cur1, cur1 = (cur.toList.take ((i + 2) * 2) ++ entCells (l.drop (i + 1)) ++ cur.toList.drop ((i + 2) * 2 + (entCells (l.drop (i + 1))).length)).toArray := ⟨_, rfl⟩
  rw [← hcur1] at h1
  have hg1 : (w.drew.drew.setRow g cur1).heap[g]? = some (.cells cur1 59 (0, 0)) := setRow_heap _ _ _ _ _ _ hg
  have hs1 : cur1.size = c * 2 := by rw [hcur1]; simp only [List.size_toArray, List.length_append, List.length_take, List.length_drop, hclen, cD]; omega
  have h2 := run_copy_ent (w.drew.drew.setRow g cur1) g (i * 2) (n + 1 - i) (c - i) ⟨vb, 0, none⟩ 2 vc 2 cur1 59 (entCells m) hg1 (by simp only [Nat.min_def]; split <;> omega) (by omega) (fun j u hj => by
    obtain ⟨g', off', e, hcj⟩ := hm j u hj
    simp at e
    obtain ⟨rfl, rfl⟩ := e
    rw [add_none]
    exact (World.cell?_of_block (w := w.drew.drew) (a := ⟨vb, 0 + j, none⟩) (setRow_other _ _ _ _ hne)).trans hcj) (by rw [cM, hs1]; omega) (entCells_one _)
  obtain ⟨cur2, hcur2⟩ : ∃ cur2, cur2 = (cur1.toList.take (i * 2) ++ entCells m ++ cur1.toList.drop (i * 2 + (entCells m).length)).toArray := ⟨_, rfl⟩
  rw [← hcur2] at h2
  have hg2 : ((w.drew.drew.setRow g cur1).setRow g cur2).heap[g]? = some (.cells cur2 59 (0, 0)) := setRow_heap _ _ _ _ _ _ hg1
  have hclen1 : cur1.toList.length = c * 2 := by rw [Array.length_toList]; exact hs1
  have ht2 := (two_copies cur.toList (entCells (l.take i)) (entCells m) (entCells (l.drop (i + 1))) (by rw [cA]; exact hA) (by rw [cA, cD, cM, hclen]; omega)).1
  rw [cA] at ht2
  have HO : Hid (EOwn ((w.drew.drew.setRow g cur1).setRow g cur2) B (.slice (some ⟨g, 0, none⟩) (n + 1) c) (repL l i m)) := by
    have hL : (repL l i m).length = n + 1 := by unfold repL; rw [List.length_append, List.length_append, hlt, hld, hm2]; omega
    have := EOwn.of_block (B := B) (l := repL l i m) hg2 hbg (cap := c) (by rw [hL]; omega) hcm (by rw [hcur2]; simp only [List.size_toArray, List.length_append, List.length_take, List.length_drop, cM, hclen1]; omega) (by
      rw [hL]
      unfold repL
      rw [entCells_append, entCells_append, hcur2, hcur1]
      rw [show (n + 1) * 2 = i * 2 + (entCells m).length + (entCells (l.drop (i + 1))).length by rw [cD, cM]; omega, show (i + 2) * 2 = i * 2 + (entCells m).length by rw [cM]; omega]
      exact ht2)
    rw [hL] at this
    exact this
  have HB : Hid (Below B w ((w.drew.drew.setRow g cur1).setRow g cur2)) := below_setRow (below_setRow ((Below.refl _ _).drew.drew) hbg _) hbg _
  have hov : ∀ lb cb, (callFunc 130 #[.slice (some ⟨g, (i + 2) * 2, none⟩) lb cb, .slice (some ⟨vb, 0, none⟩) 2 vc]).run Tryz.prog w.drew = .ok (.value (.bool false)) w.drew := fun lb cb =>
    overlaps_apart w.drew ⟨g, (i + 2) * 2, none⟩ ⟨vb, 0, none⟩ lb cb 2 vc (fun e => hne e.symm) 59 59 _ _ hg hV hV0
  clear hcur1 hg1 hs1 hcur2 hg2 hclen hclen1 ht2 hA cA cD cM hld hlt h hct hg hcs hm hV
  rw [hnl] at hi hn hlc hc ⊢
  rw [hm2]
  have H1 := Lib.hid h1
  clear h1
  have h1 := H1.out (c - (i + 1))
  generalize (w.drew.drew.setRow g cur1) = W1 at *
  generalize W1.setRow g cur2 = W2 at *
  clear hnl hm2
  have e1 : ¬ c = i + 1 := by omega
  have e2 : ¬ c = i := by omega
  have e3 : ¬ c = i + 2 := by omega
  have e4 : i ≤ c := by omega
  have e5 : ¬ ((i : Int) + 1 = (n : Int)) := by omega
  have e7 : (i : Int) + 1 ≤ (n : Int) := by omega
  have e7b : (i : Int) + 1 ≤ (c : Int) := by omega
  have e8 : (0 : Int) ≤ (i : Int) + 1 := by omega
  have e8b : (0 : Int) ≤ (i : Int) + 2 := by omega
  have e9 : (i : Int) + 2 + ((n - (i + 1) : Nat) : Int) = (n : Int) + 1 := by omega
  have e9b : IntKind.i64.wrap ((i : Int) + 2 + ((n - (i + 1) : Nat) : Int)) = (n : Int) + 1 := by rw [IntKind.wrap_i64]; omega
  have e9c : IntKind.i64.wrap ((i : Int) + 2) = (i : Int) + 2 := by rw [IntKind.wrap_i64]; omega
  have e10 : ¬ ((c : Int) < (n : Int) + 1) := by omega
  have e11 : i ≤ n + 1 := by omega
  have e12 : n + 1 ≤ c := by omega
  have e13 : ¬ ((i : Int) + 2 ≤ (i : Int) + 1) := by omega
  have e14 : (i : Int) + 2 ≤ (n : Int) + 1 := by omega
  have e15 : n + 1 - (i + 2) = n - (i + 1) := by omega
  go_enter Tryz.func86, Tryz.ntmps86
  go_wp2_with fail
  go_region
  all_goals
    go_wp2_with (simp only [hov])
    go_region
    all_goals
      go_wp2
      go_ret
      exact ⟨_, rfl, HO.out, HB.out⟩
/-- slices.Replace of one entry by one or two -/
theorem replace_any (w : World) (B : Nat) (v : Value) (l m : List Ent) (h : EOwn w B v l) (hB : B ≤ w.heap.size) (i : Nat) (hi : i < l.length) (vb vc : Nat) (hm : EOwn w 0 (.slice (some ⟨vb, 0, none⟩) m.length vc) m) (hm0 : 0 < m.length) (hm2 : m.length ≤ 2) (hne : v.ownBlock ≠ some vb) (hn : l.length ≤ 100000) :
    Calls Tryz.prog 86 #[v, .int .i64 i, .int .i64 ((i : Int) + 1), .slice (some ⟨vb, 0, none⟩) m.length vc] w fun e w' => ∃ v', e = .returned v' ∧ EOwn w' B v' (repL l i m) ∧ Below B w w' := by
  obtain ⟨ao, c, rfl, -, -⟩ := h.parts
  obtain ⟨ao2, c2, e2, hmr, -⟩ := hm.parts
  simp at e2
  obtain ⟨rfl, rfl⟩ := e2
  obtain ⟨gv, curV, ev, -, -, hV, v1, -, v3, -⟩ := hm.block
  simp at ev
  subst ev
  cases ao with
  | none =>
    rcases h.2 with ⟨hv, h0⟩ | ⟨g, cap, cur, hv, _⟩
    · omega
    · simp at hv
  | some a =>
    obtain ⟨g, cur, rfl, -, -, -, hlc, -⟩ := h.block
    simp [Value.ownBlock] at hne
    have hne' : vb ≠ g := fun e => hne e.symm
    by_cases hil : i + 1 = l.length
    · exact replace_end w B g c l m h hB i hil vb vc hmr hm0 hm2 hn
    · rcases (show m.length = 1 ∨ m.length = 2 by omega) with h1 | h2
      · exact replace_one w B g c l m h i (by omega) vb vc hmr h1 hne' hn
      · by_cases hc : c < l.length + 1
        · exact replace_grow w B g c l m h hB i (by omega) vb vc hmr h2 hc hn
        · exact replace_two w B g c l m h i (by omega) vb vc hmr h2 hne' (by omega) curV hV (by omega) hn
end Go.Proofs.YtmgcaohpbaiiaaaGreatDoor
