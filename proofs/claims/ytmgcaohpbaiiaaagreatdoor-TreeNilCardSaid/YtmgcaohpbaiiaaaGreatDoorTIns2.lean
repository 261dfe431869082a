/- slices.Insert of one entry: where there is no room; all cases. -/
import Derived.Test.YtmgcaohpbaiiaaaGreatDoorTIns
set_option linter.unusedSimpArgs false
set_option linter.unusedVariables false
namespace Go.Proofs.YtmgcaohpbaiiaaaGreatDoor
open Go.RowKit Go.Maps Go.Shelf Go.Builtin

/-- a new row out of an old one: the first entries, then what stands between, then what stands behind -/
theorem grow_row (w : World) (B g c i k : Nat) (l m : List Ent) (h : EOwn w B (.slice (some ⟨g, 0, none⟩) l.length c) l) (hB : B ≤ w.heap.size) (hi : i ≤ k) (hk : k ≤ l.length) (hn : l.length ≤ 100000) (hm : m.length ≤ 1000) (hm0 : 0 < m.length)
    (vb off : Nat) (vc : Nat) (hq : ∀ j u, (entCells m)[j]? = some u → w.cell? (⟨vb, off + j, none⟩) = some u) (hc : c < i + (m.length + (l.length - k))) (hck : ¬ c = k ∨ l.length = k) :
    ∃ cap W1 W2 W3, (Builtin.append_ #[31, 3] 31 #[.slice (some ⟨g, 0, none⟩) i c, .int .i64 ((m.length + (l.length - k) : Nat) : Int)]).run Tryz.prog w = .ok (.slice (some ⟨w.heap.size, 0, none⟩) (i + (m.length + (l.length - k))) cap) W1 ∧
      i + (m.length + (l.length - k)) ≤ cap ∧
      (∀ dc, (Builtin.copy_ #[31, 31] 3 #[.slice (some ⟨w.heap.size, i * 2, none⟩) (m.length + (l.length - k)) dc, .slice (some ⟨vb, off, none⟩) m.length vc]).run Tryz.prog W1 = .ok (goInt m.length) W2) ∧
      (∀ dc sc, (Builtin.copy_ #[31, 31] 3 #[.slice (some ⟨w.heap.size, (i + m.length) * 2, none⟩) (l.length - k) dc, .slice (some ⟨g, k * 2, none⟩) (l.length - k) sc]).run Tryz.prog W2.drew = .ok (goInt ((l.length - k : Nat) : Int)) W3) ∧
      EOwn W3 B (.slice (some ⟨w.heap.size, 0, none⟩) (i + (m.length + (l.length - k))) cap) (l.take i ++ m ++ l.drop k) ∧ Below w.heap.size w W3 := by
  obtain ⟨g', cur, e, -, hbg, hg, hlc, hcm, hcs, hct⟩ := h.block
  simp at e
  subst e
  have hgl := lt_of hg
  obtain ⟨cap, cur1, hr, hcap1, hcap2, hs1, ht1⟩ := ent_append_zeros w h i (m.length + (l.length - k)) (by omega) (by omega) hc (by omega)
  have hld : (l.drop k).length = l.length - k := List.length_drop
  have hlt : (l.take i).length = i := by rw [List.length_take]; omega
  have cD : (entCells (l.drop k)).length = (l.length - k) * 2 := by rw [entCells_len, hld]
  have cA : (entCells (l.take i)).length = i * 2 := by rw [entCells_len, hlt]
  have cM : (entCells m).length = m.length * 2 := entCells_len m
  have hclen1 : cur1.toList.length = cap * 2 := by rw [Array.length_toList]; exact hs1
  have hg1 : (w.drew.alloc (.cells cur1 59)).heap[w.heap.size]? = some (.cells cur1 59 (0, 0)) := heap_alloc_new' w.drew _
  have hB1 : Below w.heap.size w (w.drew.alloc (.cells cur1 59)) := ((Below.refl _ w).drew).alloc (Nat.le_refl _) _
  have h2 : ∀ dc, _ := fun dc => run_copy_ent (w.drew.alloc (.cells cur1 59)) w.heap.size (i * 2) (m.length + (l.length - k)) dc ⟨vb, off, none⟩ m.length vc m.length cur1 59 (entCells m) hg1 (by simp only [Nat.min_def]; split <;> omega) cM (fun j u hj => by
    rw [add_none]
    have hcj := hq j u hj
    exact (hB1.cell (World.block_lt_of_cell? w _ hcj)).trans hcj) (by rw [cM, hs1]; omega) (entCells_one _)
  obtain ⟨cur2, hcur2⟩ : ∃ cur2, cur2 = (cur1.toList.take (i * 2) ++ entCells m ++ cur1.toList.drop (i * 2 + (entCells m).length)).toArray := ⟨_, rfl⟩
  rw [← hcur2] at h2
  have hg2 : ((w.drew.alloc (.cells cur1 59)).setRow w.heap.size cur2).heap[w.heap.size]? = some (.cells cur2 59 (0, 0)) := setRow_heap _ _ _ _ _ _ hg1
  have hs2 : cur2.size = cap * 2 := by rw [hcur2]; simp only [List.size_toArray, List.length_append, List.length_take, List.length_drop, hclen1, cM]; omega
  have hB2 := below_setRow hB1 (Nat.le_refl _) cur2 (g := w.heap.size)
  have h3 : ∀ dc sc, _ := fun dc sc => run_copy_ent ((w.drew.alloc (.cells cur1 59)).setRow w.heap.size cur2).drew w.heap.size ((i + m.length) * 2) (l.length - k) dc ⟨g, k * 2, none⟩ (l.length - k) sc (l.length - k) cur2 59 (entCells (l.drop k)) hg2 (Nat.min_self _) cD (fun j u hj => by
    rw [entCells_drop, List.getElem?_drop] at hj
    rw [add_none]
    have hcj := cur_cell hg hct hj
    exact (hB2.cell (World.block_lt_of_cell? w _ hcj)).trans hcj) (by rw [cD, hs2]; omega) (entCells_one _)
  obtain ⟨cur3, hcur3⟩ : ∃ cur3, cur3 = (cur2.toList.take ((i + m.length) * 2) ++ entCells (l.drop k) ++ cur2.toList.drop ((i + m.length) * 2 + (entCells (l.drop k)).length)).toArray := ⟨_, rfl⟩
  rw [← hcur3] at h3
  have hclen2 : cur2.toList.length = cap * 2 := by rw [Array.length_toList]; exact hs2
  have hg3 : (((w.drew.alloc (.cells cur1 59)).setRow w.heap.size cur2).drew.setRow w.heap.size cur3).heap[w.heap.size]? = some (.cells cur3 59 (0, 0)) := setRow_heap _ _ _ _ _ _ hg2
  have hB3 := below_setRow hB2.drew (Nat.le_refl _) cur3 (g := w.heap.size)
  have ht2 := (two_copies cur1.toList (entCells (l.take i)) (entCells m) (entCells (l.drop k)) (by rw [cA]; exact ht1) (by rw [cA, cM, cD, hclen1]; omega)).2
  rw [cA] at ht2
  have hL : (l.take i ++ m ++ l.drop k).length = i + (m.length + (l.length - k)) := by rw [List.length_append, List.length_append, hlt, hld]; omega
  refine ⟨cap, _, _, _, hr, hcap1, h2, h3, ?_, hB3⟩
  have := EOwn.of_block (B := B) (l := l.take i ++ m ++ l.drop k) hg3 hB (cap := cap) (by rw [hL]; exact hcap1) hcap2 (by rw [hcur3]; simp only [List.size_toArray, List.length_append, List.length_take, List.length_drop, hclen2, cD]; omega) (by
    rw [hL, entCells_append, entCells_append, hcur3, hcur2]
    rw [show (i + (m.length + (l.length - k))) * 2 = i * 2 + (entCells m).length + (entCells (l.drop k)).length by rw [cM, cD]; omega, show (i + m.length) * 2 = i * 2 + (entCells m).length by rw [cM]; omega]
    exact ht2)
  rw [hL] at this
  exact this
set_option maxHeartbeats 4000000 in
set_option maxRecDepth 100000 in
/-- ahead of another, where there is no room -/
theorem insert_grow (w : World) (B g c : Nat) (l : List Ent) (h : EOwn w B (.slice (some ⟨g, 0, none⟩) l.length c) l) (hB : B ≤ w.heap.size) (i : Nat) (hi : i < l.length) (hc : c < l.length + 1) (q : Ent) (vb : Nat) (hq : EBox w vb q) (hn : l.length ≤ 100000) :
    Calls Tryz.prog 129 #[.slice (some ⟨g, 0, none⟩) l.length c, .int .i64 i, .slice (some ⟨vb, 0, none⟩) 1 1] w fun e w' => ∃ v', e = .returned v' ∧ EOwn w' B v' (insL l i [q]) ∧ Below B w w' := by
  have hlc : l.length ≤ c := by obtain ⟨_, _, _, _, _, _, h5, _⟩ := h.block; exact h5
  obtain ⟨cap, W1, W2, W3, h1, hcap, h2, h3, ho, hb⟩ := grow_row w B g c i i l [q] h hB (Nat.le_refl _) (by omega) hn (by simp) (by simp) vb 0 1 (fun j u hj => by have := hq.src j u (by simpa [entCells] using hj); rwa [add_none] at this) (by simp; omega) (.inl (by omega))
  have HO := Lib.hid ho
  have HB := Lib.hid (hb.mono hB)
  clear ho hb hq h
  simp only [List.length_cons, List.length_nil, Nat.zero_add] at h1 h2 h3 hcap HO
  generalize hnl : l.length = n at *
  rw [show ((1 + (n - i) : Nat) : Int) = (n : Int) + 1 - (i : Int) by omega, show i + (1 + (n - i)) = n + 1 by omega] at h1
  rw [show 1 + (n - i) = n + 1 - i by omega] at h2
  rw [show i + (1 + (n - i)) = n + 1 by omega] at hcap HO
  have H3 := Lib.hid h3
  clear hnl h3
  have e1 : ¬ c = i := by omega
  have e2 : ¬ cap = i + 1 := by omega
  have e3 : ¬ cap = i := by omega
  have e4 : i ≤ n := by omega
  have e5 : ¬ ((i : Int) = (n : Int)) := by omega
  have e6 : (c : Int) < (n : Int) + 1 := by omega
  have e7 : (i : Int) + 1 ≤ (n : Int) + 1 := by omega
  have e8 : (0 : Int) ≤ (i : Int) + 1 := by omega
  have e9 : i + 1 ≤ n + 1 := by omega
  have e10 : i ≤ n + 1 := by omega
  have e11 : i ≤ c := by omega
  have h3 := H3.out
  go_enter Tryz.func129, Tryz.ntmps129
  go_wp2_with (at_builtin; refine wpList_append_run2 h1 rfl rfl rfl rfl rfl ?_)
  go_region
  all_goals
    go_wp2
    go_ret
    exact ⟨_, rfl, HO.out, HB.out⟩
/-- slices.Insert of one entry -/
theorem insert_any (w : World) (B : Nat) (v : Value) (l : List Ent) (h : EOwn w B v l) (hB : B ≤ w.heap.size) (i : Nat) (hi : i ≤ l.length) (q : Ent) (vb : Nat) (hq : EBox w vb q) (hne : v.ownBlock ≠ some vb) (hn : l.length ≤ 100000) :
    Calls Tryz.prog 129 #[v, .int .i64 i, .slice (some ⟨vb, 0, none⟩) 1 1] w fun e w' => ∃ v', e = .returned v' ∧ EOwn w' B v' (insL l i [q]) ∧ Below B w w' := by
  by_cases hil : i = l.length
  · subst hil
    rw [insL_end]
    exact insert_end w B v l h hB q vb hq (by omega)
  · obtain ⟨ao, c, rfl, -, -⟩ := h.parts
    cases ao with
    | none =>
      rcases h.2 with ⟨hv, h0⟩ | ⟨g, cap, cur, hv, _⟩
      · omega
      · simp at hv
    | some a =>
      obtain ⟨g, cur, rfl, -⟩ := h.block
      simp [Value.ownBlock] at hne
      by_cases hc : c < l.length + 1
      · exact insert_grow w B g c l h hB i (by omega) hc q vb hq hn
      · exact insert_shift w B g c l h i (by omega) (by omega) q vb hq (fun e => hne e.symm) (by omega)
end Go.Proofs.YtmgcaohpbaiiaaaGreatDoor
