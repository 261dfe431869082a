/- slices.Insert of one entry · slices.Insert of one entry: where there is no room; all cases · slices.Replace of one entry by one or two · slices.Replace of one entry by one or two, in place; all cases. -/
import Derived.Test.YtmgcaohpbaiiaaaGreatDoorU1
namespace Go.Proofs.YtmgcaohpbaiiaaaGreatDoor
/-! TIns -/
section
set_option linter.unusedSimpArgs false
set_option linter.unusedVariables false
open Go.RowKit Go.Maps Go.Shelf Go.Builtin

/-- two copies into a row: first what stands behind, then what stands between; and the other way round -/
theorem two_copies (cur A e D : List Value) (hA : cur.take A.length = A) (hl : A.length + e.length + D.length ≤ cur.length) :
    (((cur.take (A.length + e.length) ++ D ++ cur.drop (A.length + e.length + D.length)).take A.length ++ e ++ (cur.take (A.length + e.length) ++ D ++ cur.drop (A.length + e.length + D.length)).drop (A.length + e.length))).take (A.length + e.length + D.length) = A ++ e ++ D ∧
    (((cur.take A.length ++ e ++ cur.drop (A.length + e.length)).take (A.length + e.length) ++ D ++ (cur.take A.length ++ e ++ cur.drop (A.length + e.length)).drop (A.length + e.length + D.length))).take (A.length + e.length + D.length) = A ++ e ++ D := by
  obtain ⟨R, rfl⟩ : ∃ R, cur = A ++ R := ⟨_, (List.take_append_drop A.length cur).symm.trans (congrArg (· ++ cur.drop A.length) hA)⟩
  have hR : e.length + D.length ≤ R.length := by rw [List.length_append] at hl; omega
  have c1 : (A ++ R).take (A.length + e.length) = A ++ R.take e.length := List.take_length_add_append _
  have hRe : (R.take e.length).length = e.length := by rw [List.length_take]; omega
  constructor
  · have c2 : ((A ++ R).take (A.length + e.length) ++ D ++ (A ++ R).drop (A.length + e.length + D.length)).take A.length = A := by
      rw [c1, List.append_assoc, List.append_assoc]; exact List.take_left
    have c3 : ((A ++ R).take (A.length + e.length) ++ D ++ (A ++ R).drop (A.length + e.length + D.length)).drop (A.length + e.length) = D ++ (A ++ R).drop (A.length + e.length + D.length) := by
      rw [c1, List.append_assoc (A ++ _)]; exact List.drop_left' (by rw [List.length_append, hRe])
    rw [c2, c3, ← List.append_assoc]
    exact List.take_left' (by simp only [List.length_append])
  · have c2 : (A ++ R).take A.length = A := List.take_left
    have c3 : (A ++ e ++ (A ++ R).drop (A.length + e.length)).take (A.length + e.length) = A ++ e := List.take_left' (by simp only [List.length_append])
    rw [c2, c3]
    exact List.take_left' (by simp only [List.length_append])
theorem ent_append_zeros (w : World) {B g n c : Nat} {l : List Ent} (h : EOwn w B (.slice (some ⟨g, 0, none⟩) n c) l) (i k : Nat) (hi : i ≤ l.length) (hk : 0 < k) (hc : c < i + k) (hbig : i + k ≤ 1000000) :
    ∃ cap cur1, (Builtin.append_ #[31, 3] 31 #[.slice (some ⟨g, 0, none⟩) i c, .int .i64 (k : Nat)]).run Tryz.prog w = .ok (.slice (some ⟨w.heap.size, 0, none⟩) (i + k) cap) (w.drew.alloc (.cells cur1 59)) ∧
      i + k ≤ cap ∧ cap ≤ maxLen ∧ cur1.size = cap * 2 ∧ cur1.toList.take (i * 2) = entCells (l.take i) := by
  obtain ⟨g', cur, e, -, -, hg, hlc, hcm, hcs, hct⟩ := h.block
  simp at e
  subst e
  obtain ⟨i0, hi0, hz0, hz1, hz2⟩ := info_parts info_ent
  have hold : (Builtin.firstCells i0.size i (.slice (some ⟨g, 0, none⟩) i c)).run Tryz.prog w.drew = .ok (entCells (l.take i)).toArray w.drew := by
    rw [hz1]
    refine run_firstCells_some w.drew 2 i ⟨g, 0, none⟩ i c (entCells (l.take i)) (by rw [entCells_len, List.length_take]; omega) (fun j v hj => ?_)
    rw [add_none, Nat.zero_add]
    rw [entCells_take, List.getElem?_take] at hj
    split at hj
    · exact cur_cell (w := w.drew) hg hct hj
    · cases hj
  have hr := Lib.run_append_grow_zeros (P := Tryz.prog) w 31 3 31 59 i0 _ .i64 .i64 Tryz.underlying31 Tryz.underlying3 hi0 hz0 (some ⟨g, 0, none⟩) i c (entCells (l.take i)) hold k hk (by rw [hz1]; decide) hc (by omega) (by rw [hz2]; omega) (by
    have := nextslicecap_le hc
    have h2 : nextslicecap (i + k) c * i0.bytes ≤ 2 * (i + k) * i0.bytes := Nat.mul_le_mul_right _ this
    rw [hz2] at h2 ⊢
    omega)
  have hge := grownCap_ge w (i + k) c 59
  have hle := grownCap_le_maxLen w (i + k) c 59 (by unfold maxLen; omega)
  refine ⟨_, _, hr, hge, hle, ?_, ?_⟩
  · simp only [Array.size_append, List.size_toArray, size_zeroCells, entCells_len, List.length_take, Value.cells]
    have : (Array.flatMap Value.cells #[Value.string ⟨#[]⟩, Value.string ⟨#[]⟩]).size = 2 := by rfl
    simp
    omega
  · simp only [Array.toList_append, List.append_assoc]
    exact List.take_left' (by rw [entCells_len, List.length_take]; omega)
theorem overlaps_apart (w : World) (a b : Addr) (la ca lb cb : Nat) (hne : a.block ≠ b.block) (tA tB : TypeId) (cA cB : Array Value) (hA : w.heap[a.block]? = some (.cells cA tA (0, 0))) (hB : w.heap[b.block]? = some (.cells cB tB (0, 0))) (hs : cB.size ≠ 0) :
    (callFunc 130 #[.slice (some a) la ca, .slice (some b) lb cb]).run Tryz.prog w = .ok (.value (.bool false)) w := by
  obtain ⟨i0, hi0, hz0, hz1, hz2⟩ := info_parts info_ent
  rw [run_callFunc_extern Tryz.func130 (by kernel_rfl) (by kernel_rfl) (by kernel_rfl) (e := Extern.SlicesOverlaps.overlaps #[31, 31] #[4]) (by kernel_rfl),
    Lib.run_overlaps_apart w 31 4 59 Tryz.underlying31 2 (fun w => by simp [sizeOf, typeInfo, hi0, hz1]) a b la ca lb cb hne tA tB cA.size cB.size (by simp [World.shape?, hA]) (by simp [World.shape?, hB]) hs (by simp [World.frozen?, hA]) (by simp [World.frozen?, hA])]
  rfl
/-- an entry in a block of its own -/
def EBox (w : World) (b : Nat) (q : Ent) : Prop := w.heap[b]? = some (.cells #[.string q.1, .string q.2] 59 (0, 0))
theorem EBox.src {w : World} {b : Nat} {q : Ent} (h : EBox w b q) : ∀ j u, [Value.string q.1, Value.string q.2][j]? = some u → w.cell? ((⟨b, 0, none⟩ : Addr).add j) = some u := fun j u hj => by
  rw [add_none, Nat.zero_add, cell_of h]
  simpa using hj
theorem EBox.row {w : World} {b : Nat} {q : Ent} (h : EBox w b q) : ERow w (some ⟨b, 0, none⟩) [q] := fun j u hj => ⟨b, 0, rfl, by
  have := h.src j u hj
  rwa [add_none] at this⟩
theorem insL_length (l : List Ent) {i : Nat} (hi : i ≤ l.length) (m : List Ent) : (insL l i m).length = l.length + m.length := by simp [insL]; omega
theorem insL_cells (l : List Ent) (i : Nat) (q : Ent) : entCells (insL l i [q]) = entCells (l.take i) ++ [Value.string q.1, Value.string q.2] ++ entCells (l.drop i) := by simp [insL, entCells_append, entCells]
theorem insL_end (l : List Ent) (m : List Ent) : insL l l.length m = l ++ m := by simp [insL]
set_option maxHeartbeats 2000000 in
set_option maxRecDepth 100000 in
/-- behind the last entry -/
theorem insert_end (w : World) (B : Nat) (v : Value) (l : List Ent) (h : EOwn w B v l) (hB : B ≤ w.heap.size) (q : Ent) (vb : Nat) (hq : EBox w vb q) (hn : l.length ≤ 1000000) :
    Calls Tryz.prog 129 #[v, .int .i64 l.length, .slice (some ⟨vb, 0, none⟩) 1 1] w fun e w' => ∃ v', e = .returned v' ∧ EOwn w' B v' (l ++ [q]) ∧ Below B w w' := by
  obtain ⟨ao, c, rfl, hl, hlt⟩ := h.parts
  obtain ⟨a2, c2, w3, hr, ho, hg, ha⟩ := ent_append w B _ l [q] 1 (some ⟨vb, 0, none⟩) h hq.row (.inl (by simp)) (by simp; omega) hB
  have HO := Lib.hid ho
  have HB := Lib.hid (grown_below hg (fun b hb => (hlt b hb).1) hB)
  have hc : l.length ≤ c := by
    rcases h.2 with ⟨hv, h0⟩ | ⟨g, cap, cur, hv, hb, hg, hn, _⟩
    · omega
    · simp at hv; omega
  simp only [List.length_cons, List.length_nil, Nat.zero_add] at hr HO
  clear ho hg ha h hl hlt hq
  generalize hnl : l.length = n at *
  have HNL := Lib.hid hnl
  clear hnl
  cases ao with
  | none =>
    go_enter Tryz.func129, Tryz.ntmps129
    go_wp2_with (at_builtin; refine wpList_append_run hr rfl rfl rfl rfl rfl ?_)
    go_ret
    exact ⟨_, rfl, HO.out, HB.out⟩
  | some a =>
    go_enter Tryz.func129, Tryz.ntmps129
    go_wp2_with (at_builtin; refine wpList_append_run hr rfl rfl rfl rfl rfl ?_)
    all_goals
      go_ret
      exact ⟨_, rfl, HO.out, HB.out⟩
set_option maxHeartbeats 4000000 in
set_option maxRecDepth 100000 in
/-- ahead of another, where there is room -/
theorem insert_shift (w : World) (B g c : Nat) (l : List Ent) (h : EOwn w B (.slice (some ⟨g, 0, none⟩) l.length c) l) (i : Nat) (hi : i < l.length) (hc : l.length + 1 ≤ c) (q : Ent) (vb : Nat) (hq : EBox w vb q) (hne : vb ≠ g) (hn : l.length ≤ 1000000) :
    Calls Tryz.prog 129 #[.slice (some ⟨g, 0, none⟩) l.length c, .int .i64 i, .slice (some ⟨vb, 0, none⟩) 1 1] w fun e w' => ∃ v', e = .returned v' ∧ EOwn w' B v' (insL l i [q]) ∧ Below B w w' := by
  obtain ⟨g', cur, e, -, hbg, hg, hlc, hcm, hcs, hct⟩ := h.block
  simp at e
  subst e
  obtain ⟨n, hnl⟩ : ∃ n, l.length = n := ⟨_, rfl⟩
  have hld : (l.drop i).length = n - i := by rw [List.length_drop, hnl]
  have hlt : (l.take i).length = i := by rw [List.length_take]; omega
  have cD : (entCells (l.drop i)).length = (n - i) * 2 := by rw [entCells_len, hld]
  have cA : (entCells (l.take i)).length = i * 2 := by rw [entCells_len, hlt]
  have hclen : cur.toList.length = c * 2 := by rw [Array.length_toList]; exact hcs
  have hA : cur.toList.take (i * 2) = entCells (l.take i) := by rw [entCells_take, ← hct, List.take_take, Nat.min_eq_left (by omega)]
  have hsrc1 : ∀ j u, (entCells (l.drop i))[j]? = some u → w.drew.cell? ((⟨g, i * 2, none⟩ : Addr).add j) = some u := fun j u hj => by
    rw [entCells_drop, List.getElem?_drop] at hj
    rw [add_none]
    exact cur_cell (w := w.drew) hg hct hj
  have h1 := run_copy_ent w.drew g ((i + 1) * 2) (n - i) (c - (i + 1)) ⟨g, i * 2, none⟩ (n + 1 - i) (c - i) (n - i) cur 59 (entCells (l.drop i)) hg (by simp only [Nat.min_def]; split <;> omega) cD hsrc1 (by rw [cD, hcs]; omega) (entCells_one _)
  obtain ⟨cur1, hcur1⟩ : ∃ cur1, cur1 = (cur.toList.take ((i + 1) * 2) ++ entCells (l.drop i) ++ cur.toList.drop ((i + 1) * 2 + (entCells (l.drop i)).length)).toArray := ⟨_, rfl⟩
  rw [← hcur1] at h1
  have hg1 : (w.drew.setRow g cur1).heap[g]? = some (.cells cur1 59 (0, 0)) := setRow_heap _ _ _ _ _ _ hg
  have hs1 : cur1.size = c * 2 := by rw [hcur1]; simp only [List.size_toArray, List.length_append, List.length_take, List.length_drop, hclen, cD]; omega
  have hq1 : EBox (w.drew.setRow g cur1) vb q := (setRow_other _ _ _ _ hne).trans hq
  have h2 := run_copy_ent (w.drew.setRow g cur1) g (i * 2) (n + 1 - i) (c - i) ⟨vb, 0, none⟩ 1 1 1 cur1 59 [.string q.1, .string q.2] hg1 (by simp only [Nat.min_def]; split <;> omega) rfl hq1.src (by simp only [List.length_cons, List.length_nil]; omega) (fun u hu => by simp at hu; rcases hu with rfl | rfl <;> rfl)
  obtain ⟨cur2, hcur2⟩ : ∃ cur2, cur2 = (cur1.toList.take (i * 2) ++ [Value.string q.1, Value.string q.2] ++ cur1.toList.drop (i * 2 + [Value.string q.1, Value.string q.2].length)).toArray := ⟨_, rfl⟩
  rw [← hcur2] at h2
  have hg2 : ((w.drew.setRow g cur1).setRow g cur2).heap[g]? = some (.cells cur2 59 (0, 0)) := setRow_heap _ _ _ _ _ _ hg1
  have hclen1 : cur1.toList.length = c * 2 := by rw [Array.length_toList]; exact hs1
  have ht2 := (two_copies cur.toList (entCells (l.take i)) [Value.string q.1, Value.string q.2] (entCells (l.drop i)) (by rw [cA]; exact hA) (by rw [cA, cD, hclen]; simp only [List.length_cons, List.length_nil]; omega)).1
  rw [cA] at ht2
  have hi2 : i * 2 + [Value.string q.1, Value.string q.2].length = (i + 1) * 2 := by simp only [List.length_cons, List.length_nil]; omega
  rw [hi2] at ht2 hcur2
  have HO : Hid (EOwn ((w.drew.setRow g cur1).setRow g cur2) B (.slice (some ⟨g, 0, none⟩) (n + 1) c) (insL l i [q])) := by
    have hL : (insL l i [q]).length = n + 1 := by rw [insL_length l (by omega), hnl]; rfl
    have := EOwn.of_block (B := B) (l := insL l i [q]) hg2 hbg (cap := c) (by rw [hL]; omega) hcm (by rw [hcur2]; simp only [List.size_toArray, List.length_append, List.length_take, List.length_drop, List.length_cons, List.length_nil, hclen1]; omega) (by
      rw [hL, insL_cells, hcur2]
      rw [hcur1]
      rw [show (n + 1) * 2 = (i + 1) * 2 + (entCells (l.drop i)).length by rw [cD]; omega]
      exact ht2)
    rw [hL] at this
    exact this
  have HB : Hid (Below B w ((w.drew.setRow g cur1).setRow g cur2)) := below_setRow (below_setRow ((Below.refl _ _).drew) hbg _) hbg _
  have hov : ∀ lb cb, (callFunc 130 #[.slice (some ⟨vb, 0, none⟩) 1 1, .slice (some ⟨g, (i + 1) * 2, none⟩) lb cb]).run Tryz.prog w = .ok (.value (.bool false)) w := fun lb cb =>
    overlaps_apart w ⟨vb, 0, none⟩ ⟨g, (i + 1) * 2, none⟩ 1 1 lb cb hne 59 59 _ _ hq hg (by omega)
  clear hsrc1 hcur1 hg1 hs1 hq1 hcur2 hg2 hclen hclen1 ht2 hi2 hA cA cD hld hlt h hct hg hcs hq
  rw [hnl] at hi hc hn hlc ⊢
  generalize (w.drew.setRow g cur1) = W1 at *
  generalize W1.setRow g cur2 = W2 at *
  clear hnl
  have e1 : ¬ c = i := by omega
  have e2 : ¬ c = i + 1 := by omega
  have e3 : n + 1 ≤ c := by omega
  have e4 : i ≤ n := by omega
  have e5 : ¬ ((i : Int) = (n : Int)) := by omega
  have e6 : ¬ ((c : Int) < (n : Int) + 1) := by omega
  have e7 : (i : Int) + 1 ≤ (n : Int) + 1 := by omega
  have e8 : (0 : Int) ≤ (i : Int) + 1 := by omega
  have e9 : i + 1 ≤ n + 1 := by omega
  have e10 : i ≤ n + 1 := by omega
  go_enter Tryz.func129, Tryz.ntmps129
  go_wp2_with (simp only [hov])
  go_region
  all_goals
    go_wp2
    go_ret
    exact ⟨_, rfl, HO.out, HB.out⟩
end
/-! TIns2 -/
section
set_option linter.unusedSimpArgs false
set_option linter.unusedVariables false
open Go.RowKit Go.Maps Go.Shelf Go.Builtin

/-- a new row out of an old one: the first entries, then what stands between, then what stands behind -/
theorem grow_row (w : World) (B g c i k : Nat) (l m : List Ent) (h : EOwn w B (.slice (some ⟨g, 0, none⟩) l.length c) l) (hB : B ≤ w.heap.size) (hi : i ≤ k) (hk : k ≤ l.length) (hn : l.length ≤ 100000) (hm : m.length ≤ 1000) (hm0 : 0 < m.length)
    (vb off : Nat) (vc : Nat) (hq : ∀ j u, (entCells m)[j]? = some u → w.cell? (⟨vb, off + j, none⟩) = some u) (hc : c < i + (m.length + (l.length - k))) (hck : ¬ c = k ∨ l.length = k) :
    ∃ cap W1 W2 W3, (Builtin.append_ #[31, 3] 31 #[.slice (some ⟨g, 0, none⟩) i c, .int .i64 ((m.length + (l.length - k) : Nat) : Int)]).run Tryz.prog w = .ok (.slice (some ⟨w.heap.size, 0, none⟩) (i + (m.length + (l.length - k))) cap) W1 ∧
      i + (m.length + (l.length - k)) ≤ cap ∧
      (∀ dc, (Builtin.copy_ #[31, 31] 3 #[.slice (some ⟨w.heap.size, i * 2, none⟩) (m.length + (l.length - k)) dc, .slice (some ⟨vb, off, none⟩) m.length vc]).run Tryz.prog W1 = .ok (goInt m.length) W2) ∧
      (∀ dc sc, (Builtin.copy_ #[31, 31] 3 #[.slice (some ⟨w.heap.size, (i + m.length) * 2, none⟩) (l.length - k) dc, .slice (some ⟨g, k * 2, none⟩) (l.length - k) sc]).run Tryz.prog W2.drew = .ok (goInt ((l.length - k : Nat) : Int)) W3) ∧
      EOwn W3 B (.slice (some ⟨w.heap.size, 0, none⟩) (i + (m.length + (l.length - k))) cap) (l.take i ++ m ++ l.drop k) ∧ Below w.heap.size w W3 := by
  obtain ⟨g', cur, e, -, hbg, hg, hlc, hcm, hcs, hct⟩ := h.block
  simp at e
  subst e
  have hgl := lt_of hg
  obtain ⟨cap, cur1, hr, hcap1, hcap2, hs1, ht1⟩ := ent_append_zeros w h i (m.length + (l.length - k)) (by omega) (by omega) hc (by omega)
  have hld : (l.drop k).length = l.length - k := List.length_drop
  have hlt : (l.take i).length = i := by rw [List.length_take]; omega
  have cD : (entCells (l.drop k)).length = (l.length - k) * 2 := by rw [entCells_len, hld]
  have cA : (entCells (l.take i)).length = i * 2 := by rw [entCells_len, hlt]
  have cM : (entCells m).length = m.length * 2 := entCells_len m
  have hclen1 : cur1.toList.length = cap * 2 := by rw [Array.length_toList]; exact hs1
  have hg1 : (w.drew.alloc (.cells cur1 59)).heap[w.heap.size]? = some (.cells cur1 59 (0, 0)) := heap_alloc_new' w.drew _
  have hB1 : Below w.heap.size w (w.drew.alloc (.cells cur1 59)) := ((Below.refl _ w).drew).alloc (Nat.le_refl _) _
  have h2 : ∀ dc, _ := fun dc => run_copy_ent (w.drew.alloc (.cells cur1 59)) w.heap.size (i * 2) (m.length + (l.length - k)) dc ⟨vb, off, none⟩ m.length vc m.length cur1 59 (entCells m) hg1 (by simp only [Nat.min_def]; split <;> omega) cM (fun j u hj => by
    rw [add_none]
    have hcj := hq j u hj
    exact (hB1.cell (World.block_lt_of_cell? w _ hcj)).trans hcj) (by rw [cM, hs1]; omega) (entCells_one _)
  obtain ⟨cur2, hcur2⟩ : ∃ cur2, cur2 = (cur1.toList.take (i * 2) ++ entCells m ++ cur1.toList.drop (i * 2 + (entCells m).length)).toArray := ⟨_, rfl⟩
  rw [← hcur2] at h2
  have hg2 : ((w.drew.alloc (.cells cur1 59)).setRow w.heap.size cur2).heap[w.heap.size]? = some (.cells cur2 59 (0, 0)) := setRow_heap _ _ _ _ _ _ hg1
  have hs2 : cur2.size = cap * 2 := by rw [hcur2]; simp only [List.size_toArray, List.length_append, List.length_take, List.length_drop, hclen1, cM]; omega
  have hB2 := below_setRow hB1 (Nat.le_refl _) cur2 (g := w.heap.size)
  have h3 : ∀ dc sc, _ := fun dc sc => run_copy_ent ((w.drew.alloc (.cells cur1 59)).setRow w.heap.size cur2).drew w.heap.size ((i + m.length) * 2) (l.length - k) dc ⟨g, k * 2, none⟩ (l.length - k) sc (l.length - k) cur2 59 (entCells (l.drop k)) hg2 (Nat.min_self _) cD (fun j u hj => by
    rw [entCells_drop, List.getElem?_drop] at hj
    rw [add_none]
    have hcj := cur_cell hg hct hj
    exact (hB2.cell (World.block_lt_of_cell? w _ hcj)).trans hcj) (by rw [cD, hs2]; omega) (entCells_one _)
  obtain ⟨cur3, hcur3⟩ : ∃ cur3, cur3 = (cur2.toList.take ((i + m.length) * 2) ++ entCells (l.drop k) ++ cur2.toList.drop ((i + m.length) * 2 + (entCells (l.drop k)).length)).toArray := ⟨_, rfl⟩
  rw [← hcur3] at h3
  have hclen2 : cur2.toList.length = cap * 2 := by rw [Array.length_toList]; exact hs2
  have hg3 : (((w.drew.alloc (.cells cur1 59)).setRow w.heap.size cur2).drew.setRow w.heap.size cur3).heap[w.heap.size]? = some (.cells cur3 59 (0, 0)) := setRow_heap _ _ _ _ _ _ hg2
  have hB3 := below_setRow hB2.drew (Nat.le_refl _) cur3 (g := w.heap.size)
  have ht2 := (two_copies cur1.toList (entCells (l.take i)) (entCells m) (entCells (l.drop k)) (by rw [cA]; exact ht1) (by rw [cA, cM, cD, hclen1]; omega)).2
  rw [cA] at ht2
  have hL : (l.take i ++ m ++ l.drop k).length = i + (m.length + (l.length - k)) := by rw [List.length_append, List.length_append, hlt, hld]; omega
  refine ⟨cap, _, _, _, hr, hcap1, h2, h3, ?_, hB3⟩
  have := EOwn.of_block (B := B) (l := l.take i ++ m ++ l.drop k) hg3 hB (cap := cap) (by rw [hL]; exact hcap1) hcap2 (by rw [hcur3]; simp only [List.size_toArray, List.length_append, List.length_take, List.length_drop, hclen2, cD]; omega) (by
    rw [hL, entCells_append, entCells_append, hcur3, hcur2]
    rw [show (i + (m.length + (l.length - k))) * 2 = i * 2 + (entCells m).length + (entCells (l.drop k)).length by rw [cM, cD]; omega, show (i + m.length) * 2 = i * 2 + (entCells m).length by rw [cM]; omega]
    exact ht2)
  rw [hL] at this
  exact this
set_option maxHeartbeats 4000000 in
set_option maxRecDepth 100000 in
/-- ahead of another, where there is no room -/
theorem insert_grow (w : World) (B g c : Nat) (l : List Ent) (h : EOwn w B (.slice (some ⟨g, 0, none⟩) l.length c) l) (hB : B ≤ w.heap.size) (i : Nat) (hi : i < l.length) (hc : c < l.length + 1) (q : Ent) (vb : Nat) (hq : EBox w vb q) (hn : l.length ≤ 100000) :
    Calls Tryz.prog 129 #[.slice (some ⟨g, 0, none⟩) l.length c, .int .i64 i, .slice (some ⟨vb, 0, none⟩) 1 1] w fun e w' => ∃ v', e = .returned v' ∧ EOwn w' B v' (insL l i [q]) ∧ Below B w w' := by
  have hlc : l.length ≤ c := by obtain ⟨_, _, _, _, _, _, h5, _⟩ := h.block; exact h5
  obtain ⟨cap, W1, W2, W3, h1, hcap, h2, h3, ho, hb⟩ := grow_row w B g c i i l [q] h hB (Nat.le_refl _) (by omega) hn (by simp) (by simp) vb 0 1 (fun j u hj => by have := hq.src j u (by simpa [entCells] using hj); rwa [add_none] at this) (by simp; omega) (.inl (by omega))
  have HO := Lib.hid ho
  have HB := Lib.hid (hb.mono hB)
  clear ho hb hq h
  simp only [List.length_cons, List.length_nil, Nat.zero_add] at h1 h2 h3 hcap HO
  generalize hnl : l.length = n at *
  rw [show ((1 + (n - i) : Nat) : Int) = (n : Int) + 1 - (i : Int) by omega, show i + (1 + (n - i)) = n + 1 by omega] at h1
  rw [show 1 + (n - i) = n + 1 - i by omega] at h2
  rw [show i + (1 + (n - i)) = n + 1 by omega] at hcap HO
  have H3 := Lib.hid h3
  clear hnl h3
  have e1 : ¬ c = i := by omega
  have e2 : ¬ cap = i + 1 := by omega
  have e3 : ¬ cap = i := by omega
  have e4 : i ≤ n := by omega
  have e5 : ¬ ((i : Int) = (n : Int)) := by omega
  have e6 : (c : Int) < (n : Int) + 1 := by omega
  have e7 : (i : Int) + 1 ≤ (n : Int) + 1 := by omega
  have e8 : (0 : Int) ≤ (i : Int) + 1 := by omega
  have e9 : i + 1 ≤ n + 1 := by omega
  have e10 : i ≤ n + 1 := by omega
  have e11 : i ≤ c := by omega
  have h3 := H3.out
  go_enter Tryz.func129, Tryz.ntmps129
  go_wp2_with (at_builtin; refine wpList_append_run2 h1 rfl rfl rfl rfl rfl ?_)
  go_region
  all_goals
    go_wp2
    go_ret
    exact ⟨_, rfl, HO.out, HB.out⟩
/-- slices.Insert of one entry -/
theorem insert_any (w : World) (B : Nat) (v : Value) (l : List Ent) (h : EOwn w B v l) (hB : B ≤ w.heap.size) (i : Nat) (hi : i ≤ l.length) (q : Ent) (vb : Nat) (hq : EBox w vb q) (hne : v.ownBlock ≠ some vb) (hn : l.length ≤ 100000) :
    Calls Tryz.prog 129 #[v, .int .i64 i, .slice (some ⟨vb, 0, none⟩) 1 1] w fun e w' => ∃ v', e = .returned v' ∧ EOwn w' B v' (insL l i [q]) ∧ Below B w w' := by
  by_cases hil : i = l.length
  · subst hil
    rw [insL_end]
    exact insert_end w B v l h hB q vb hq (by omega)
  · obtain ⟨ao, c, rfl, -, -⟩ := h.parts
    cases ao with
    | none =>
      rcases h.2 with ⟨hv, h0⟩ | ⟨g, cap, cur, hv, _⟩
      · omega
      · simp at hv
    | some a =>
      obtain ⟨g, cur, rfl, -⟩ := h.block
      simp [Value.ownBlock] at hne
      by_cases hc : c < l.length + 1
      · exact insert_grow w B g c l h hB i (by omega) hc q vb hq hn
      · exact insert_shift w B g c l h i (by omega) (by omega) q vb hq (fun e => hne e.symm) (by omega)
end
/-! TRepl -/
section
set_option linter.unusedSimpArgs false
set_option linter.unusedVariables false
open Go.RowKit Go.Maps Go.Shelf Go.Builtin

/-- entries in the place of one -/
def repL (l : List Ent) (i : Nat) (m : List Ent) : List Ent := l.take i ++ m ++ l.drop (i + 1)
theorem run_clear_none (w : World) (ty : TypeId) (ao : Option Addr) (c : Nat) : (Builtin.clear_ #[31] ty #[.slice ao 0 c]).run Tryz.prog w = .ok (.tuple #[]) w := by
  cases ao <;> simp [Builtin.clear_, run_underlying Tryz.underlying31, Result.andThen]

set_option maxHeartbeats 4000000 in
set_option maxRecDepth 100000 in
/-- the last one -/
theorem replace_end (w : World) (B g c : Nat) (l m : List Ent) (h : EOwn w B (.slice (some ⟨g, 0, none⟩) l.length c) l) (hB : B ≤ w.heap.size) (i : Nat) (hi : i + 1 = l.length) (vb vc : Nat) (hm : ERow w (some ⟨vb, 0, none⟩) m) (hm0 : 0 < m.length) (hm2 : m.length ≤ 2) (hn : l.length ≤ 100000) :
    Calls Tryz.prog 86 #[.slice (some ⟨g, 0, none⟩) l.length c, .int .i64 i, .int .i64 ((i : Int) + 1), .slice (some ⟨vb, 0, none⟩) m.length vc] w fun e w' => ∃ v', e = .returned v' ∧ EOwn w' B v' (repL l i m) ∧ Below B w w' := by
  have hlc : l.length ≤ c := by obtain ⟨_, _, _, _, _, _, h5, _⟩ := h.block; exact h5
  have hlt := (h.lt g rfl)
  have hlen : (l.take i).length = i := by rw [List.length_take]; omega
  obtain ⟨a2, c2, w3, hr, ho, hg, ha⟩ := ent_append w B (.slice (some ⟨g, 0, none⟩) i c) (l.take i) m vc (some ⟨vb, 0, none⟩) (h.take (by omega) (by simp)) hm (.inr ⟨_, _, rfl⟩) (by omega) hB
  have HO : Hid (EOwn w3 B (.slice a2 ((l.take i).length + m.length) c2) (repL l i m)) := by
    unfold repL
    rw [List.drop_of_length_le (by omega), List.append_nil]; exact ho
  have HB := Lib.hid (grown_below hg (fun b hb => by simp [Value.ownBlock] at hb; omega) hB)
  rw [hlen] at hr HO
  clear ho hg ha h hm hlt hlen
  generalize hnl : l.length = n at *
  generalize hml : m.length = k at *
  clear hnl hml
  subst hi
  have e1 : i ≤ c := by omega
  have e2 : (i : Int) + 1 ≤ (c : Int) := by omega
  have e3 : (0 : Int) ≤ (i : Int) + 1 := by omega
  have e4 : ¬ ((i : Int) + (k : Int) < (i : Int) + 1) := by omega
  go_enter Tryz.func86, Tryz.ntmps86
  go_wp2_with (at_builtin; refine wpList_append_run hr rfl rfl rfl rfl rfl ?_)
  all_goals
    go_ret
    exact ⟨_, rfl, HO.out, HB.out⟩
set_option maxHeartbeats 4000000 in
set_option maxRecDepth 100000 in
/-- not the last one, where there is no room -/
theorem replace_grow (w : World) (B g c : Nat) (l m : List Ent) (h : EOwn w B (.slice (some ⟨g, 0, none⟩) l.length c) l) (hB : B ≤ w.heap.size) (i : Nat) (hi : i + 1 < l.length) (vb vc : Nat) (hm : ERow w (some ⟨vb, 0, none⟩) m) (hm2 : m.length = 2) (hc : c < l.length + 1) (hn : l.length ≤ 100000) :
    Calls Tryz.prog 86 #[.slice (some ⟨g, 0, none⟩) l.length c, .int .i64 i, .int .i64 ((i : Int) + 1), .slice (some ⟨vb, 0, none⟩) m.length vc] w fun e w' => ∃ v', e = .returned v' ∧ EOwn w' B v' (repL l i m) ∧ Below B w w' := by
  have hlc : l.length ≤ c := by obtain ⟨_, _, _, _, _, _, h5, _⟩ := h.block; exact h5
  obtain ⟨cap, W1, W2, W3, h1, hcap, h2, h3, ho, hb⟩ := grow_row w.drew B g c i (i + 1) l m (h.drewN 1) hB (by omega) (by omega) hn (by omega) (by omega) vb 0 vc (fun j u hj => by
    obtain ⟨g', off', e, hcj⟩ := hm j u hj
    simp at e
    obtain ⟨rfl, rfl⟩ := e
    exact hcj) (by omega) (.inl (by omega))
  have HO : Hid (EOwn W3 B (.slice (some ⟨w.heap.size, 0, none⟩) (i + (m.length + (l.length - (i + 1)))) cap) (repL l i m)) := ho
  have HB : Hid (Below B w W3) := Lib.hid (((Below.refl _ w).drew).trans (hb.mono hB))
  change _ = Result.ok (Value.slice (some ⟨w.heap.size, 0, none⟩) _ _) _ at h1
  change ∀ dc, (Builtin.copy_ _ _ #[Value.slice (some ⟨w.heap.size, _, none⟩) _ dc, _]).run _ _ = _ at h2
  change ∀ dc sc, (Builtin.copy_ _ _ #[Value.slice (some ⟨w.heap.size, _, none⟩) _ dc, _]).run _ _ = _ at h3
  clear ho hb hm h
  rw [hm2] at h1 h2 h3 hcap HO ⊢
  generalize hnl : l.length = n at *
  rw [show ((2 + (n - (i + 1)) : Nat) : Int) = (n : Int) + 1 - (i : Int) by omega, show i + (2 + (n - (i + 1))) = n + 1 by omega] at h1
  rw [show 2 + (n - (i + 1)) = n + 1 - i by omega] at h2
  rw [show i + (2 + (n - (i + 1))) = n + 1 by omega] at hcap HO
  have H3 := Lib.hid h3
  clear hnl h3
  have e1 : ¬ c = i + 1 := by omega
  have e2 : ¬ cap = i + 2 := by omega
  have e3 : ¬ cap = i := by omega
  have e4 : i ≤ c := by omega
  have e5 : ¬ ((i : Int) + 1 = (n : Int)) := by omega
  have e7 : (i : Int) + 1 ≤ (n : Int) := by omega
  have e7b : (i : Int) + 1 ≤ (c : Int) := by omega
  have e8 : (0 : Int) ≤ (i : Int) + 1 := by omega
  have e8b : (0 : Int) ≤ (i : Int) + 2 := by omega
  have e9 : (i : Int) + 2 + ((n - (i + 1) : Nat) : Int) = (n : Int) + 1 := by omega
  have e9b : IntKind.i64.wrap ((i : Int) + 2 + ((n - (i + 1) : Nat) : Int)) = (n : Int) + 1 := by rw [IntKind.wrap_i64]; omega
  have e9c : IntKind.i64.wrap ((i : Int) + 2) = (i : Int) + 2 := by rw [IntKind.wrap_i64]; omega
  have e9d : IntKind.i64.wrap ((i : Int) + 1) = (i : Int) + 1 := by rw [IntKind.wrap_i64]; omega
  have e10 : (c : Int) < (n : Int) + 1 := by omega
  have e11 : (i : Int) + 2 ≤ (n : Int) + 1 := by omega
  have e12 : i ≤ n + 1 := by omega
  have h3 := H3.out
  go_enter Tryz.func86, Tryz.ntmps86
  go_wp2_with fail
  go_region
  all_goals
    go_wp2_with (at_builtin; refine wpList_append_run2 h1 rfl rfl rfl rfl rfl ?_)
    go_region
    all_goals
      go_wp2
      go_ret
      exact ⟨_, rfl, HO.out, HB.out⟩
end
/-! TRepl2 -/
section
set_option linter.unusedSimpArgs false
set_option linter.unusedVariables false
open Go.RowKit Go.Maps Go.Shelf Go.Builtin

set_option maxHeartbeats 4000000 in
set_option maxRecDepth 100000 in
/-- not the last one, by one -/
theorem replace_one (w : World) (B g c : Nat) (l m : List Ent) (h : EOwn w B (.slice (some ⟨g, 0, none⟩) l.length c) l) (i : Nat) (hi : i + 1 < l.length) (vb vc : Nat) (hm : ERow w (some ⟨vb, 0, none⟩) m) (hm1 : m.length = 1) (hne : vb ≠ g) (hn : l.length ≤ 100000) :
    Calls Tryz.prog 86 #[.slice (some ⟨g, 0, none⟩) l.length c, .int .i64 i, .int .i64 ((i : Int) + 1), .slice (some ⟨vb, 0, none⟩) m.length vc] w fun e w' => ∃ v', e = .returned v' ∧ EOwn w' B v' (repL l i m) ∧ Below B w w' := by
  obtain ⟨g', cur, e, -, hbg, hg, hlc, hcm, hcs, hct⟩ := h.block
  simp at e
  subst e
  obtain ⟨n, hnl⟩ : ∃ n, l.length = n := ⟨_, rfl⟩
  have hld : (l.drop (i + 1)).length = n - (i + 1) := by rw [List.length_drop, hnl]
  have hlt : (l.take i).length = i := by rw [List.length_take]; omega
  have cD : (entCells (l.drop (i + 1))).length = (n - (i + 1)) * 2 := by rw [entCells_len, hld]
  have cA : (entCells (l.take i)).length = i * 2 := by rw [entCells_len, hlt]
  have cM : (entCells m).length = 2 := by rw [entCells_len, hm1]
  have hclen : cur.toList.length = c * 2 := by rw [Array.length_toList]; exact hcs
  have hA : cur.toList.take (i * 2) = entCells (l.take i) := by rw [entCells_take, ← hct, List.take_take, Nat.min_eq_left (by omega)]
  have h1 := run_copy_ent w.drew g (i * 2) (n - i) (c - i) ⟨vb, 0, none⟩ 1 vc 1 cur 59 (entCells m) hg (by simp only [Nat.min_def]; split <;> omega) (by omega) (fun j u hj => by
    obtain ⟨g', off', e, hcj⟩ := hm j u hj
    simp at e
    obtain ⟨rfl, rfl⟩ := e
    rw [add_none]; exact hcj) (by rw [cM, hcs]; omega) (entCells_one _)
  obtain ⟨cur1, hcur1⟩ : ∃ cur1, cur1 = (cur.toList.take (i * 2) ++ entCells m ++ cur.toList.drop (i * 2 + (entCells m).length)).toArray := ⟨_, rfl⟩
  rw [← hcur1] at h1
  have hg1 : (w.drew.setRow g cur1).heap[g]? = some (.cells cur1 59 (0, 0)) := setRow_heap _ _ _ _ _ _ hg
  have hs1 : cur1.size = c * 2 := by rw [hcur1]; simp only [List.size_toArray, List.length_append, List.length_take, List.length_drop, hclen, cM]; omega
  have hsrc2 : ∀ j u, (entCells (l.drop (i + 1)))[j]? = some u → (w.drew.setRow g cur1).drew.cell? ((⟨g, (i + 1) * 2, none⟩ : Addr).add j) = some u := fun j u hj => by
    have hjl := (List.getElem?_eq_some_iff.1 hj).1
    rw [cD] at hjl
    rw [add_none, cell_of (w := (w.drew.setRow g cur1).drew) hg1, hcur1]
    rw [List.getElem?_toArray, List.getElem?_append_right (by simp only [List.length_append, List.length_take, hclen, cM]; omega)]
    simp only [List.length_append, List.length_take, hclen, cM]
    rw [Nat.min_eq_left (by omega), List.getElem?_drop, show i * 2 + 2 + ((i + 1) * 2 + j - (i * 2 + 2)) = (i + 1) * 2 + j by omega]
    rw [entCells_drop, List.getElem?_drop] at hj
    have := cur_cell hg hct hj
    rw [cell_of hg, ← Array.getElem?_toList] at this
    exact this
  have h2 : ∀ dc sc, _ := fun dc sc => run_copy_ent (w.drew.setRow g cur1).drew g ((i + 1) * 2) (n - (i + 1)) dc ⟨g, (i + 1) * 2, none⟩ (n - (i + 1)) sc (n - (i + 1)) cur1 59 (entCells (l.drop (i + 1))) hg1 (Nat.min_self _) cD hsrc2 (by rw [cD, hs1]; omega) (entCells_one _)
  obtain ⟨cur2, hcur2⟩ : ∃ cur2, cur2 = (cur1.toList.take ((i + 1) * 2) ++ entCells (l.drop (i + 1)) ++ cur1.toList.drop ((i + 1) * 2 + (entCells (l.drop (i + 1))).length)).toArray := ⟨_, rfl⟩
  rw [← hcur2] at h2
  have hg2 : ((w.drew.setRow g cur1).drew.setRow g cur2).heap[g]? = some (.cells cur2 59 (0, 0)) := setRow_heap _ _ _ _ _ _ hg1
  have hclen1 : cur1.toList.length = c * 2 := by rw [Array.length_toList]; exact hs1
  have ht2 := (two_copies cur.toList (entCells (l.take i)) (entCells m) (entCells (l.drop (i + 1))) (by rw [cA]; exact hA) (by rw [cA, cD, cM, hclen]; omega)).2
  rw [cA] at ht2
  have HO : Hid (EOwn ((w.drew.setRow g cur1).drew.setRow g cur2) B (.slice (some ⟨g, 0, none⟩) n c) (repL l i m)) := by
    have hL : (repL l i m).length = n := by unfold repL; rw [List.length_append, List.length_append, hlt, hld, hm1]; omega
    have := EOwn.of_block (B := B) (l := repL l i m) hg2 hbg (cap := c) (by rw [hL]; omega) hcm (by rw [hcur2]; simp only [List.size_toArray, List.length_append, List.length_take, List.length_drop, cD, hclen1]; omega) (by
      rw [hL]
      unfold repL
      rw [entCells_append, entCells_append, hcur2, hcur1]
      rw [show n * 2 = i * 2 + (entCells m).length + (entCells (l.drop (i + 1))).length by rw [cD, cM]; omega, show (i + 1) * 2 = i * 2 + (entCells m).length by rw [cM]; omega]
      exact ht2)
    rw [hL] at this
    exact this
  have HB : Hid (Below B w ((w.drew.setRow g cur1).drew.setRow g cur2)) := below_setRow (below_setRow ((Below.refl _ _).drew) hbg _).drew hbg _
  have h3 := fun ty ao c => run_clear_none ((w.drew.setRow g cur1).drew.setRow g cur2) ty ao c
  clear hsrc2 hcur1 hg1 hs1 hcur2 hg2 hclen hclen1 ht2 hA cA cD cM hld hlt h hct hg hcs hm
  rw [hnl] at hi hn hlc ⊢
  rw [hm1]
  have H2 := Lib.hid h2
  clear h2
  have h2 := H2.out (c - (i + 1)) (c - (i + 1))
  generalize (w.drew.setRow g cur1) = W1 at *
  generalize W1.drew.setRow g cur2 = W2 at *
  clear hnl hm1
  have e1 : ¬ c = i + 1 := by omega
  have e2 : ¬ c = i := by omega
  have e4 : i ≤ c := by omega
  have e5 : ¬ ((i : Int) + 1 = (n : Int)) := by omega
  have e7 : (i : Int) + 1 ≤ (n : Int) := by omega
  have e7b : (i : Int) + 1 ≤ (c : Int) := by omega
  have e8 : (0 : Int) ≤ (i : Int) + 1 := by omega
  have e9 : (i : Int) + 1 + ((n - (i + 1) : Nat) : Int) = (n : Int) := by omega
  have e9b : IntKind.i64.wrap ((i : Int) + 1 + ((n - (i + 1) : Nat) : Int)) = (n : Int) := by rw [IntKind.wrap_i64]; omega
  have e9d : IntKind.i64.wrap ((i : Int) + 1) = (i : Int) + 1 := by rw [IntKind.wrap_i64]; omega
  have e10 : ¬ ((c : Int) < (n : Int)) := by omega
  have e11 : i ≤ n := by omega
  have e12 : n ≤ c := by omega
  go_enter Tryz.func86, Tryz.ntmps86
  go_wp2_with fail
  go_region
  all_goals
    go_wp2_with fail
    go_region
    all_goals
      go_wp2
      all_goals
        go_ret
        first
          | exact ⟨_, rfl, HO.out, HB.out⟩
          | (have hcn : c = n := by assumption
             have HO2 := HO.out
             rw [hcn] at HO2
             exact ⟨_, rfl, HO2, HB.out⟩)
set_option maxHeartbeats 4000000 in
set_option maxRecDepth 100000 in
/-- not the last one, by two, where there is room -/
theorem replace_two (w : World) (B g c : Nat) (l m : List Ent) (h : EOwn w B (.slice (some ⟨g, 0, none⟩) l.length c) l) (i : Nat) (hi : i + 1 < l.length) (vb vc : Nat) (hm : ERow w (some ⟨vb, 0, none⟩) m) (hm2 : m.length = 2) (hne : vb ≠ g) (hc : l.length + 1 ≤ c) (curV : Array Value) (hV : w.heap[vb]? = some (.cells curV 59 (0, 0))) (hV0 : curV.size ≠ 0) (hn : l.length ≤ 100000) :
    Calls Tryz.prog 86 #[.slice (some ⟨g, 0, none⟩) l.length c, .int .i64 i, .int .i64 ((i : Int) + 1), .slice (some ⟨vb, 0, none⟩) m.length vc] w fun e w' => ∃ v', e = .returned v' ∧ EOwn w' B v' (repL l i m) ∧ Below B w w' := by
  obtain ⟨g', cur, e, -, hbg, hg, hlc, hcm, hcs, hct⟩ := h.block
  simp at e
  subst e
  obtain ⟨n, hnl⟩ : ∃ n, l.length = n := ⟨_, rfl⟩
  have hld : (l.drop (i + 1)).length = n - (i + 1) := by rw [List.length_drop, hnl]
  have hlt : (l.take i).length = i := by rw [List.length_take]; omega
  have cD : (entCells (l.drop (i + 1))).length = (n - (i + 1)) * 2 := by rw [entCells_len, hld]
  have cA : (entCells (l.take i)).length = i * 2 := by rw [entCells_len, hlt]
  have cM : (entCells m).length = 4 := by rw [entCells_len, hm2]
  have hclen : cur.toList.length = c * 2 := by rw [Array.length_toList]; exact hcs
  have hA : cur.toList.take (i * 2) = entCells (l.take i) := by rw [entCells_take, ← hct, List.take_take, Nat.min_eq_left (by omega)]
  have h1 : ∀ sc, _ := fun sc => run_copy_ent w.drew.drew g ((i + 2) * 2) (n - (i + 1)) (c - (i + 2)) ⟨g, (i + 1) * 2, none⟩ (n - (i + 1)) sc (n - (i + 1)) cur 59 (entCells (l.drop (i + 1))) hg (Nat.min_self _) cD (fun j u hj => by
    rw [entCells_drop, List.getElem?_drop] at hj
    rw [add_none]
    exact cur_cell (w := w.drew.drew) hg hct hj) (by rw [cD, hcs]; omega) (entCells_one _)
  obtain ⟨cur1, hcur1⟩ : ∃ cur1, cur1 = (cur.toList.take ((i + 2) * 2) ++ entCells (l.drop (i + 1)) ++ cur.toList.drop ((i + 2) * 2 + (entCells (l.drop (i + 1))).length)).toArray := ⟨_, rfl⟩
  rw [← hcur1] at h1
  have hg1 : (w.drew.drew.setRow g cur1).heap[g]? = some (.cells cur1 59 (0, 0)) := setRow_heap _ _ _ _ _ _ hg
  have hs1 : cur1.size = c * 2 := by rw [hcur1]; simp only [List.size_toArray, List.length_append, List.length_take, List.length_drop, hclen, cD]; omega
  have h2 := run_copy_ent (w.drew.drew.setRow g cur1) g (i * 2) (n + 1 - i) (c - i) ⟨vb, 0, none⟩ 2 vc 2 cur1 59 (entCells m) hg1 (by simp only [Nat.min_def]; split <;> omega) (by omega) (fun j u hj => by
    obtain ⟨g', off', e, hcj⟩ := hm j u hj
    simp at e
    obtain ⟨rfl, rfl⟩ := e
    rw [add_none]
    exact (World.cell?_of_block (w := w.drew.drew) (a := ⟨vb, 0 + j, none⟩) (setRow_other _ _ _ _ hne)).trans hcj) (by rw [cM, hs1]; omega) (entCells_one _)
  obtain ⟨cur2, hcur2⟩ : ∃ cur2, cur2 = (cur1.toList.take (i * 2) ++ entCells m ++ cur1.toList.drop (i * 2 + (entCells m).length)).toArray := ⟨_, rfl⟩
  rw [← hcur2] at h2
  have hg2 : ((w.drew.drew.setRow g cur1).setRow g cur2).heap[g]? = some (.cells cur2 59 (0, 0)) := setRow_heap _ _ _ _ _ _ hg1
  have hclen1 : cur1.toList.length = c * 2 := by rw [Array.length_toList]; exact hs1
  have ht2 := (two_copies cur.toList (entCells (l.take i)) (entCells m) (entCells (l.drop (i + 1))) (by rw [cA]; exact hA) (by rw [cA, cD, cM, hclen]; omega)).1
  rw [cA] at ht2
  have HO : Hid (EOwn ((w.drew.drew.setRow g cur1).setRow g cur2) B (.slice (some ⟨g, 0, none⟩) (n + 1) c) (repL l i m)) := by
    have hL : (repL l i m).length = n + 1 := by unfold repL; rw [List.length_append, List.length_append, hlt, hld, hm2]; omega
    have := EOwn.of_block (B := B) (l := repL l i m) hg2 hbg (cap := c) (by rw [hL]; omega) hcm (by rw [hcur2]; simp only [List.size_toArray, List.length_append, List.length_take, List.length_drop, cM, hclen1]; omega) (by
      rw [hL]
      unfold repL
      rw [entCells_append, entCells_append, hcur2, hcur1]
      rw [show (n + 1) * 2 = i * 2 + (entCells m).length + (entCells (l.drop (i + 1))).length by rw [cD, cM]; omega, show (i + 2) * 2 = i * 2 + (entCells m).length by rw [cM]; omega]
      exact ht2)
    rw [hL] at this
    exact this
  have HB : Hid (Below B w ((w.drew.drew.setRow g cur1).setRow g cur2)) := below_setRow (below_setRow ((Below.refl _ _).drew.drew) hbg _) hbg _
  have hov : ∀ lb cb, (callFunc 130 #[.slice (some ⟨g, (i + 2) * 2, none⟩) lb cb, .slice (some ⟨vb, 0, none⟩) 2 vc]).run Tryz.prog w.drew = .ok (.value (.bool false)) w.drew := fun lb cb =>
    overlaps_apart w.drew ⟨g, (i + 2) * 2, none⟩ ⟨vb, 0, none⟩ lb cb 2 vc (fun e => hne e.symm) 59 59 _ _ hg hV hV0
  clear hcur1 hg1 hs1 hcur2 hg2 hclen hclen1 ht2 hA cA cD cM hld hlt h hct hg hcs hm hV
  rw [hnl] at hi hn hlc hc ⊢
  rw [hm2]
  have H1 := Lib.hid h1
  clear h1
  have h1 := H1.out (c - (i + 1))
  generalize (w.drew.drew.setRow g cur1) = W1 at *
  generalize W1.setRow g cur2 = W2 at *
  clear hnl hm2
  have e1 : ¬ c = i + 1 := by omega
  have e2 : ¬ c = i := by omega
  have e3 : ¬ c = i + 2 := by omega
  have e4 : i ≤ c := by omega
  have e5 : ¬ ((i : Int) + 1 = (n : Int)) := by omega
  have e7 : (i : Int) + 1 ≤ (n : Int) := by omega
  have e7b : (i : Int) + 1 ≤ (c : Int) := by omega
  have e8 : (0 : Int) ≤ (i : Int) + 1 := by omega
  have e8b : (0 : Int) ≤ (i : Int) + 2 := by omega
  have e9 : (i : Int) + 2 + ((n - (i + 1) : Nat) : Int) = (n : Int) + 1 := by omega
  have e9b : IntKind.i64.wrap ((i : Int) + 2 + ((n - (i + 1) : Nat) : Int)) = (n : Int) + 1 := by rw [IntKind.wrap_i64]; omega
  have e9c : IntKind.i64.wrap ((i : Int) + 2) = (i : Int) + 2 := by rw [IntKind.wrap_i64]; omega
  have e10 : ¬ ((c : Int) < (n : Int) + 1) := by omega
  have e11 : i ≤ n + 1 := by omega
  have e12 : n + 1 ≤ c := by omega
  have e13 : ¬ ((i : Int) + 2 ≤ (i : Int) + 1) := by omega
  have e14 : (i : Int) + 2 ≤ (n : Int) + 1 := by omega
  have e15 : n + 1 - (i + 2) = n - (i + 1) := by omega
  go_enter Tryz.func86, Tryz.ntmps86
  go_wp2_with fail
  go_region
  all_goals
    go_wp2_with (simp only [hov])
    go_region
    all_goals
      go_wp2
      go_ret
      exact ⟨_, rfl, HO.out, HB.out⟩
/-- slices.Replace of one entry by one or two -/
theorem replace_any (w : World) (B : Nat) (v : Value) (l m : List Ent) (h : EOwn w B v l) (hB : B ≤ w.heap.size) (i : Nat) (hi : i < l.length) (vb vc : Nat) (hm : EOwn w 0 (.slice (some ⟨vb, 0, none⟩) m.length vc) m) (hm0 : 0 < m.length) (hm2 : m.length ≤ 2) (hne : v.ownBlock ≠ some vb) (hn : l.length ≤ 100000) :
    Calls Tryz.prog 86 #[v, .int .i64 i, .int .i64 ((i : Int) + 1), .slice (some ⟨vb, 0, none⟩) m.length vc] w fun e w' => ∃ v', e = .returned v' ∧ EOwn w' B v' (repL l i m) ∧ Below B w w' := by
  obtain ⟨ao, c, rfl, -, -⟩ := h.parts
  obtain ⟨ao2, c2, e2, hmr, -⟩ := hm.parts
  simp at e2
  obtain ⟨rfl, rfl⟩ := e2
  obtain ⟨gv, curV, ev, -, -, hV, v1, -, v3, -⟩ := hm.block
  simp at ev
  subst ev
  cases ao with
  | none =>
    rcases h.2 with ⟨hv, h0⟩ | ⟨g, cap, cur, hv, _⟩
    · omega
    · simp at hv
  | some a =>
    obtain ⟨g, cur, rfl, -, -, -, hlc, -⟩ := h.block
    simp [Value.ownBlock] at hne
    have hne' : vb ≠ g := fun e => hne e.symm
    by_cases hil : i + 1 = l.length
    · exact replace_end w B g c l m h hB i hil vb vc hmr hm0 hm2 hn
    · rcases (show m.length = 1 ∨ m.length = 2 by omega) with h1 | h2
      · exact replace_one w B g c l m h i (by omega) vb vc hmr h1 hne' hn
      · by_cases hc : c < l.length + 1
        · exact replace_grow w B g c l m h hB i (by omega) vb vc hmr h2 hc hn
        · exact replace_two w B g c l m h i (by omega) vb vc hmr h2 hne' (by omega) curV hV (by omega) hn
end
end Go.Proofs.YtmgcaohpbaiiaaaGreatDoor
