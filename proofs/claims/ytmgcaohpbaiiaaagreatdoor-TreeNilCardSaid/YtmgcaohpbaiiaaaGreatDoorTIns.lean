/- slices.Insert of one entry. -/
import Derived.Test.YtmgcaohpbaiiaaaGreatDoorTSl
set_option linter.unusedSimpArgs false
set_option linter.unusedVariables false
namespace Go.Proofs.YtmgcaohpbaiiaaaGreatDoor
open Go.RowKit Go.Maps Go.Shelf Go.Builtin

/-- two copies into a row: first what stands behind, then what stands between; and the other way round -/
theorem two_copies (cur A e D : List Value) (hA : cur.take A.length = A) (hl : A.length + e.length + D.length ≤ cur.length) :
    (((cur.take (A.length + e.length) ++ D ++ cur.drop (A.length + e.length + D.length)).take A.length ++ e ++ (cur.take (A.length + e.length) ++ D ++ cur.drop (A.length + e.length + D.length)).drop (A.length + e.length))).take (A.length + e.length + D.length) = A ++ e ++ D ∧
    (((cur.take A.length ++ e ++ cur.drop (A.length + e.length)).take (A.length + e.length) ++ D ++ (cur.take A.length ++ e ++ cur.drop (A.length + e.length)).drop (A.length + e.length + D.length))).take (A.length + e.length + D.length) = A ++ e ++ D := by
  obtain ⟨R, rfl⟩ : ∃ R, cur = A ++ R := ⟨_, (List.take_append_drop A.length cur).symm.trans (congrArg (· ++ cur.drop A.length) hA)⟩
  have hR : e.length + D.length ≤ R.length := by rw [List.length_append] at hl; omega
  have c1 : (A ++ R).take (A.length + e.length) = A ++ R.take e.length := List.take_length_add_append _
  have hRe : (R.take e.length).length = e.length := by rw [List.length_take]; omega
  constructor
  · have c2 : ((A ++ R).take (A.length + e.length) ++ D ++ (A ++ R).drop (A.length + e.length + D.length)).take A.length = A := by
      rw [c1, List.append_assoc, List.append_assoc]; exact List.take_left
    have c3 : ((A ++ R).take (A.length + e.length) ++ D ++ (A ++ R).drop (A.length + e.length + D.length)).drop (A.length + e.length) = D ++ (A ++ R).drop (A.length + e.length + D.length) := by
      rw [c1, List.append_assoc (A ++ _)]; exact List.drop_left' (by rw [List.length_append, hRe])
    rw [c2, c3, ← List.append_assoc]
    exact List.take_left' (by simp only [List.length_append])
  · have c2 : (A ++ R).take A.length = A := List.take_left
    have c3 : (A ++ e ++ (A ++ R).drop (A.length + e.length)).take (A.length + e.length) = A ++ e := List.take_left' (by simp only [List.length_append])
    rw [c2, c3]
    exact List.take_left' (by simp only [List.length_append])
theorem ent_append_zeros (w : World) {B g n c : Nat} {l : List Ent} (h : EOwn w B (.slice (some ⟨g, 0, none⟩) n c) l) (i k : Nat) (hi : i ≤ l.length) (hk : 0 < k) (hc : c < i + k) (hbig : i + k ≤ 1000000) :
    ∃ cap cur1, (Builtin.append_ #[31, 3] 31 #[.slice (some ⟨g, 0, none⟩) i c, .int .i64 (k : Nat)]).run Tryz.prog w = .ok (.slice (some ⟨w.heap.size, 0, none⟩) (i + k) cap) (w.drew.alloc (.cells cur1 59)) ∧
      i + k ≤ cap ∧ cap ≤ maxLen ∧ cur1.size = cap * 2 ∧ cur1.toList.take (i * 2) = entCells (l.take i) := by
  obtain ⟨g', cur, e, -, -, hg, hlc, hcm, hcs, hct⟩ := h.block
  simp at e
  subst e
  obtain ⟨i0, hi0, hz0, hz1, hz2⟩ := info_parts info_ent
  have hold : (Builtin.firstCells i0.size i (.slice (some ⟨g, 0, none⟩) i c)).run Tryz.prog w.drew = .ok (entCells (l.take i)).toArray w.drew := by
    rw [hz1]
    refine run_firstCells_some w.drew 2 i ⟨g, 0, none⟩ i c (entCells (l.take i)) (by rw [entCells_len, List.length_take]; omega) (fun j v hj => ?_)
    rw [add_none, Nat.zero_add]
    rw [entCells_take, List.getElem?_take] at hj
    split at hj
    · exact cur_cell (w := w.drew) hg hct hj
    · cases hj
  have hr := Lib.run_append_grow_zeros (P := Tryz.prog) w 31 3 31 59 i0 _ .i64 .i64 Tryz.underlying31 Tryz.underlying3 hi0 hz0 (some ⟨g, 0, none⟩) i c (entCells (l.take i)) hold k hk (by rw [hz1]; decide) hc (by omega) (by rw [hz2]; omega) (by
    have := nextslicecap_le hc
    have h2 : nextslicecap (i + k) c * i0.bytes ≤ 2 * (i + k) * i0.bytes := Nat.mul_le_mul_right _ this
    rw [hz2] at h2 ⊢
    omega)
  have hge := grownCap_ge w (i + k) c 59
  have hle := grownCap_le_maxLen w (i + k) c 59 (by unfold maxLen; omega)
  refine ⟨_, _, hr, hge, hle, ?_, ?_⟩
  · simp only [Array.size_append, List.size_toArray, size_zeroCells, entCells_len, List.length_take, Value.cells]
    have : (Array.flatMap Value.cells #[Value.string ⟨#[]⟩, Value.string ⟨#[]⟩]).size = 2 := by rfl
    simp
    omega
  · simp only [Array.toList_append, List.append_assoc]
    exact List.take_left' (by rw [entCells_len, List.length_take]; omega)
theorem overlaps_apart (w : World) (a b : Addr) (la ca lb cb : Nat) (hne : a.block ≠ b.block) (tA tB : TypeId) (cA cB : Array Value) (hA : w.heap[a.block]? = some (.cells cA tA (0, 0))) (hB : w.heap[b.block]? = some (.cells cB tB (0, 0))) (hs : cB.size ≠ 0) :
    (callFunc 130 #[.slice (some a) la ca, .slice (some b) lb cb]).run Tryz.prog w = .ok (.value (.bool false)) w := by
  obtain ⟨i0, hi0, hz0, hz1, hz2⟩ := info_parts info_ent
  rw [run_callFunc_extern Tryz.func130 (by kernel_rfl) (by kernel_rfl) (by kernel_rfl) (e := Extern.SlicesOverlaps.overlaps #[31, 31] #[4]) (by kernel_rfl),
    Lib.run_overlaps_apart w 31 4 59 Tryz.underlying31 2 (fun w => by simp [sizeOf, typeInfo, hi0, hz1]) a b la ca lb cb hne tA tB cA.size cB.size (by simp [World.shape?, hA]) (by simp [World.shape?, hB]) hs (by simp [World.frozen?, hA]) (by simp [World.frozen?, hA])]
  rfl
/-- an entry in a block of its own -/
def EBox (w : World) (b : Nat) (q : Ent) : Prop := w.heap[b]? = some (.cells #[.string q.1, .string q.2] 59 (0, 0))
theorem EBox.src {w : World} {b : Nat} {q : Ent} (h : EBox w b q) : ∀ j u, [Value.string q.1, Value.string q.2][j]? = some u → w.cell? ((⟨b, 0, none⟩ : Addr).add j) = some u := fun j u hj => by
  rw [add_none, Nat.zero_add, cell_of h]
  simpa using hj
theorem EBox.row {w : World} {b : Nat} {q : Ent} (h : EBox w b q) : ERow w (some ⟨b, 0, none⟩) [q] := fun j u hj => ⟨b, 0, rfl, by
  have := h.src j u hj
  rwa [add_none] at this⟩
theorem insL_length (l : List Ent) {i : Nat} (hi : i ≤ l.length) (m : List Ent) : (insL l i m).length = l.length + m.length := by simp [insL]; omega
theorem insL_cells (l : List Ent) (i : Nat) (q : Ent) : entCells (insL l i [q]) = entCells (l.take i) ++ [Value.string q.1, Value.string q.2] ++ entCells (l.drop i) := by simp [insL, entCells_append, entCells]
theorem insL_end (l : List Ent) (m : List Ent) : insL l l.length m = l ++ m := by simp [insL]
set_option maxHeartbeats 2000000 in
set_option maxRecDepth 100000 in
/-- behind the last entry -/
theorem insert_end (w : World) (B : Nat) (v : Value) (l : List Ent) (h : EOwn w B v l) (hB : B ≤ w.heap.size) (q : Ent) (vb : Nat) (hq : EBox w vb q) (hn : l.length ≤ 1000000) :
    Calls Tryz.prog 129 #[v, .int .i64 l.length, .slice (some ⟨vb, 0, none⟩) 1 1] w fun e w' => ∃ v', e = .returned v' ∧ EOwn w' B v' (l ++ [q]) ∧ Below B w w' := by
  obtain ⟨ao, c, rfl, hl, hlt⟩ := h.parts
  obtain ⟨a2, c2, w3, hr, ho, hg, ha⟩ := ent_append w B _ l [q] 1 (some ⟨vb, 0, none⟩) h hq.row (.inl (by simp)) (by simp; omega) hB
  have HO := Lib.hid ho
  have HB := Lib.hid (grown_below hg (fun b hb => (hlt b hb).1) hB)
  have hc : l.length ≤ c := by
    rcases h.2 with ⟨hv, h0⟩ | ⟨g, cap, cur, hv, hb, hg, hn, _⟩
    · omega
    · simp at hv; omega
  simp only [List.length_cons, List.length_nil, Nat.zero_add] at hr HO
  clear ho hg ha h hl hlt hq
  generalize hnl : l.length = n at *
  have HNL := Lib.hid hnl
  clear hnl
  cases ao with
  | none =>
    go_enter Tryz.func129, Tryz.ntmps129
    go_wp2_with (at_builtin; refine wpList_append_run hr rfl rfl rfl rfl rfl ?_)
    go_ret
    exact ⟨_, rfl, HO.out, HB.out⟩
  | some a =>
    go_enter Tryz.func129, Tryz.ntmps129
    go_wp2_with (at_builtin; refine wpList_append_run hr rfl rfl rfl rfl rfl ?_)
    all_goals
      go_ret
      exact ⟨_, rfl, HO.out, HB.out⟩
set_option maxHeartbeats 4000000 in
set_option maxRecDepth 100000 in
/-- ahead of another, where there is room -/
theorem insert_shift (w : World) (B g c : Nat) (l : List Ent) (h : EOwn w B (.slice (some ⟨g, 0, none⟩) l.length c) l) (i : Nat) (hi : i < l.length) (hc : l.length + 1 ≤ c) (q : Ent) (vb : Nat) (hq : EBox w vb q) (hne : vb ≠ g) (hn : l.length ≤ 1000000) :
    Calls Tryz.prog 129 #[.slice (some ⟨g, 0, none⟩) l.length c, .int .i64 i, .slice (some ⟨vb, 0, none⟩) 1 1] w fun e w' => ∃ v', e = .returned v' ∧ EOwn w' B v' (insL l i [q]) ∧ Below B w w' := by
  obtain ⟨g', cur, e, -, hbg, hg, hlc, hcm, hcs, hct⟩ := h.block
  simp at e
  subst e
  obtain ⟨n, hnl⟩ : ∃ n, l.length = n := ⟨_, rfl⟩
  have hld : (l.drop i).length = n - i := by rw [List.length_drop, hnl]
  have hlt : (l.take i).length = i := by rw [List.length_take]; omega
  have cD : (entCells (l.drop i)).length = (n - i) * 2 := by rw [entCells_len, hld]
  have cA : (entCells (l.take i)).length = i * 2 := by rw [entCells_len, hlt]
  have hclen : cur.toList.length = c * 2 := by rw [Array.length_toList]; exact hcs
  have hA : cur.toList.take (i * 2) = entCells (l.take i) := by rw [entCells_take, ← hct, List.take_take, Nat.min_eq_left (by omega)]
  have hsrc1 : ∀ j u, (entCells (l.drop i))[j]? = some u → w.drew.cell? ((⟨g, i * 2, none⟩ : Addr).add j) = some u := fun j u hj => by
    rw [entCells_drop, List.getElem?_drop] at hj
    rw [add_none]
    exact cur_cell (w := w.drew) hg hct hj
  have h1 := run_copy_ent w.drew g ((i + 1) * 2) (n - i) (c - (i + 1)) ⟨g, i * 2, none⟩ (n + 1 - i) (c - i) (n - i) cur 59 (entCells (l.drop i)) hg (by simp only [Nat.min_def]; split <;> omega) cD hsrc1 (by rw [cD, hcs]; omega) (entCells_one _)
  obtain ⟨cur1, hcur1⟩ : ∃ cur1, cur1 = (cur.toList.take ((i + 1) * 2) ++ entCells (l.drop i) ++ cur.toList.drop ((i + 1) * 2 + (entCells (l.drop i)).length)).toArray := ⟨_, rfl⟩
  rw [← hcur1] at h1
  have hg1 : (w.drew.setRow g cur1).heap[g]? = some (.cells cur1 59 (0, 0)) := setRow_heap _ _ _ _ _ _ hg
  have hs1 : cur1.size = c * 2 := by rw [hcur1]; simp only [List.size_toArray, List.length_append, List.length_take, List.length_drop, hclen, cD]; omega
  have hq1 : EBox (w.drew.setRow g cur1) vb q := (setRow_other _ _ _ _ hne).trans hq
  have h2 := run_copy_ent (w.drew.setRow g cur1) g (i * 2) (n + 1 - i) (c - i) ⟨vb, 0, none⟩ 1 1 1 cur1 59 [.string q.1, .string q.2] hg1 (by simp only [Nat.min_def]; split <;> omega) rfl hq1.src (by simp only [List.length_cons, List.length_nil]; omega) (fun u hu => by simp at hu; rcases hu with rfl | rfl <;> rfl)
  obtain ⟨cur2, hcur2⟩ : ∃ cur2, cur2 = (cur1.toList.take (i * 2) ++ [Value.string q.1, Value.string q.2] ++ cur1.toList.drop (i * 2 + [Value.string q.1, Value.string q.2].length)).toArray := ⟨_, rfl⟩
  rw [← hcur2] at h2
  have hg2 : ((w.drew.setRow g cur1).setRow g cur2).heap[g]? = some (.cells cur2 59 (0, 0)) := setRow_heap _ _ _ _ _ _ hg1
  have hclen1 : cur1.toList.length = c * 2 := by rw [Array.length_toList]; exact hs1
  have ht2 := (two_copies cur.toList (entCells (l.take i)) [Value.string q.1, Value.string q.2] (entCells (l.drop i)) (by rw [cA]; exact hA) (by rw [cA, cD, hclen]; simp only [List.length_cons, List.length_nil]; omega)).1
  rw [cA] at ht2
  have hi2 : i * 2 + [Value.string q.1, Value.string q.2].length = (i + 1) * 2 := by simp only [List.length_cons, List.length_nil]; omega
  rw [hi2] at ht2 hcur2
  have HO : Hid (EOwn ((w.drew.setRow g cur1).setRow g cur2) B (.slice (some ⟨g, 0, none⟩) (n + 1) c) (insL l i [q])) := by
    have hL : (insL l i [q]).length = n + 1 := by rw [insL_length l (by omega), hnl]; rfl
    have := EOwn.of_block (B := B) (l := insL l i [q]) hg2 hbg (cap := c) (by rw [hL]; omega) hcm (by rw [hcur2]; simp only [List.size_toArray, List.length_append, List.length_take, List.length_drop, List.length_cons, List.length_nil, hclen1]; omega) (by
      rw [hL, insL_cells, hcur2]
      rw [hcur1]
      rw [show (n + 1) * 2 = (i + 1) * 2 + (entCells (l.drop i)).length by rw [cD]; omega]
      exact ht2)
    rw [hL] at this
    exact this
  have HB : Hid (Below B w ((w.drew.setRow g cur1).setRow g cur2)) := below_setRow (below_setRow ((Below.refl _ _).drew) hbg _) hbg _
  have hov : ∀ lb cb, (callFunc 130 #[.slice (some ⟨vb, 0, none⟩) 1 1, .slice (some ⟨g, (i + 1) * 2, none⟩) lb cb]).run Tryz.prog w = .ok (.value (.bool false)) w := fun lb cb =>
    overlaps_apart w ⟨vb, 0, none⟩ ⟨g, (i + 1) * 2, none⟩ 1 1 lb cb hne 59 59 _ _ hq hg (by omega)
  clear hsrc1 hcur1 hg1 hs1 hq1 hcur2 hg2 hclen hclen1 ht2 hi2 hA cA cD hld hlt h hct hg hcs hq
  rw [hnl] at hi hc hn hlc ⊢
  generalize (w.drew.setRow g cur1) = W1 at *
  generalize W1.setRow g cur2 = W2 at *
  clear hnl
  have e1 : ¬ c = i := by omega
  have e2 : ¬ c = i + 1 := by omega
  have e3 : n + 1 ≤ c := by omega
  have e4 : i ≤ n := by omega
  have e5 : ¬ ((i : Int) = (n : Int)) := by omega
  have e6 : ¬ ((c : Int) < (n : Int) + 1) := by omega
  have e7 : (i : Int) + 1 ≤ (n : Int) + 1 := by omega
  have e8 : (0 : Int) ≤ (i : Int) + 1 := by omega
  have e9 : i + 1 ≤ n + 1 := by omega
  have e10 : i ≤ n + 1 := by omega
  go_enter Tryz.func129, Tryz.ntmps129
  go_wp2_with (simp only [hov])
  go_region
  all_goals
    go_wp2
    go_ret
    exact ⟨_, rfl, HO.out, HB.out⟩
end Go.Proofs.YtmgcaohpbaiiaaaGreatDoor
