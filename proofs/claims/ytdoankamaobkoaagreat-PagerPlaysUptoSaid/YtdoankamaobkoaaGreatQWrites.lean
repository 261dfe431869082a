/- The reference's journal: Writes. -/
import Derived.Test.YtdoankamaobkoaaGreatQJour
set_option linter.unusedSimpArgs false
set_option linter.unusedVariables false
namespace Go.Proofs.YtdoankamaobkoaaGreat
open Go.RowKit Go.Maps Go.Shelf

theorem own_ne {w : World} {b1 b2 : Nat} {e1 e2 : TypeId} {s1 s2 n1 n2 : Nat} {v1 v2 : Value} {x1 x2 : List Value} (h1 : w.ownsRow b1 e1 s1 v1 n1 x1) (h2 : w.ownsRow b2 e2 s2 v2 n2 x2) (he : e1 ≠ e2) {b : Nat} (hb : v1.ownBlock = some b) : v2.ownBlock ≠ some b := fun hb2 => by
  obtain ⟨c1, hc1⟩ := ownsRow_type h1 hb
  obtain ⟨c2, hc2⟩ := ownsRow_type h2 hb2
  rw [hc1] at hc2
  simp at hc2
  exact he hc2.2
/-- pages put at a row's end -/
theorem push_pages {w W : World} {base n : Nat} {v : Value} {xs : Pgs} (h : w.ownsRow base 78 2 v n (pageCells xs)) (hB : Below w.heap.size w W) (hb : base ≤ w.heap.size) (ys : Pgs) (src c : Nat) (hc : ∀ k u, (pageCells ys)[k]? = some u → W.cell? ⟨src, k, none⟩ = some u) (hn : n + ys.length ≤ 100000000) :
    ∃ ao co w3, (Builtin.append_ #[53, 53] 53 #[v, .slice (some ⟨src, 0, none⟩) ys.length c]).run Tryz.prog W = .ok (.slice ao (n + ys.length) co) w3 ∧
      w3.ownsRow base 78 2 (.slice ao (n + ys.length) co) (n + ys.length) (pageCells (xs ++ ys)) ∧ Below base w w3 ∧ (∀ b, b < w.heap.size → v.ownBlock ≠ some b → w3.heap[b]? = w.heap[b]?) := by
  have hs := hB.size
  obtain ⟨ao, co, w3, hr, ho, hg, hbl⟩ := many_append 78 53 _ 2 24 info_page Tryz.underlying53 rfl (by omega) (by omega) _ base v n (pageCells xs) (ownsRow_made h hB) ⟨src, 0, none⟩ ys.length c (pageCells ys) (pageCells_len _)
    (fun k u hu => by
      rw [add_none, Nat.zero_add]
      exact hc k u hu) (pageCells_one _) (by omega) (by omega)
  refine ⟨ao, co, w3, hr, by rw [pageCells_append]; exact ho, ?_, fun b hb hne => ?_⟩
  · exact (hB.mono hb).grown hg (Nat.le_trans hb hs) (fun k hk => ((ownsRow_made h hB).lt k hk).1)
  · exact (hg.block b (by omega) (fun e => hne e.symm)).trans (hB.block b hb)
theorem push_page {w W : World} {base n : Nat} {v : Value} {xs : Pgs} (h : w.ownsRow base 78 2 v n (pageCells xs)) (hB : Below w.heap.size w W) (hb : base ≤ w.heap.size) (hn : n ≤ 10000000) (i : Int) (x : ByteArray) :
    ∃ ao co w3, (Builtin.append_ #[53, 53] 53 #[v, .slice (some ⟨W.heap.size, 0, none⟩) 1 1]).run Tryz.prog (W.alloc (.cells #[.int .i64 i, .string x] 78)) = .ok (.slice ao (n + 1) co) w3 ∧
      w3.ownsRow base 78 2 (.slice ao (n + 1) co) (n + 1) (pageCells (xs ++ [(i, x)])) ∧ Below base w w3 ∧ (∀ b, b < w.heap.size → v.ownBlock ≠ some b → w3.heap[b]? = w.heap[b]?) :=
  push_pages h (hB.alloc hB.size _) hb [(i, x)] W.heap.size 1 (fun k u hu => by
    rw [cell_new]
    simpa [pageCells] using hu) (by simp; omega)
theorem pagesIn_cells {w : World} {g : Nat} {l : Pgs} (h : PagesIn w (some ⟨g, 0, none⟩) l) : ∀ k u, (pageCells l)[k]? = some u → w.cell? ⟨g, k, none⟩ = some u := fun k u hu => by
  have hk := (List.getElem?_eq_some_iff.1 hu).1
  rw [pageCells_len] at hk
  have hi : k / 2 < l.length := by omega
  obtain ⟨g', e, h1, h2⟩ := pagesIn_at h hi
  obtain rfl : g = g' := by simpa using e
  have hg : l.getD (k / 2) (0, ⟨#[]⟩) = l[k / 2] := by rw [List.getD_eq_getElem?_getD, List.getElem?_eq_getElem hi]; rfl
  rw [hg] at h1 h2
  obtain ⟨p1, p2⟩ := pageCells_get l (k / 2) hi
  rcases Nat.mod_two_eq_zero_or_one k with hm | hm
  · rw [show k / 2 * 2 = k by omega] at h1 p1
    rw [hu] at p1
    rw [h1, p1]
  · rw [show k / 2 * 2 + 1 = k by omega] at h2 p2
    rw [hu] at p2
    rw [h2, p2]
theorem copiesL_take (n : Int) (l : Pgs) {i : Nat} (hi : i < l.length) : (copiesL n l).take (i + 1) = (copiesL n l).take i ++ [(jCopies n + (i : Int), (l.getD i (0, ⟨#[]⟩)).2)] := by
  rw [List.take_succ_eq_append_getElem (show i < (copiesL n l).length by simp [copiesL, hi])]
  simp [copiesL]
theorem copiesL_all (n : Int) (l : Pgs) : (copiesL n l).take l.length = copiesL n l := by
  rw [List.take_of_length_le (by simp [copiesL])]
theorem rowsL_take (l : Pgs) {i : Nat} (hi : i < (jList l).length) : (rowsL l).take (i + 1) = (rowsL l).take i ++ [(2 + (i : Int), (jList l).getD i ⟨#[]⟩)] := by
  rw [List.take_succ_eq_append_getElem (show i < (rowsL l).length by simp [rowsL, hi])]
  simp [rowsL]
theorem rowsL_all (l : Pgs) : (rowsL l).take (jList l).length = rowsL l := by
  rw [List.take_of_length_le (by simp [rowsL])]
theorem writes10_nil (n : Int) (a : Option Addr) (cap : Nat) (w : World) :
    Calls Tryz.prog 101 #[.int .i64 n, .slice a 0 cap] w fun e w' => e = .returned (.slice none 0 0) ∧ w = w' := by
  go_enter Tryz.func101, Tryz.ntmps101
  go_wp2
  go_ret
  exact ⟨rfl, rfl⟩
set_option maxRecDepth 100000 in
set_option maxHeartbeats 4000000 in
theorem writes10_any (n : Int) (a : Option Addr) (cap : Nat) (l : Pgs) (w : World) (hl : PagesIn w a l) (hne : l ≠ []) (hn : l.length ≤ 4096) (hat : ∀ q ∈ l, 0 ≤ q.1 ∧ q.1 < 65536) (hsz : ∀ q ∈ l, q.2.size ≤ 65536) (h1 : 64 ≤ n) (h2 : n ≤ 2048) :
    Calls Tryz.prog 101 #[.int .i64 n, .slice a l.length cap] w fun e w' => ∃ ao co, e = .returned (.slice ao (allL n l).length co) ∧ w'.ownsRow w.heap.size 78 2 (.slice ao (allL n l).length co) (allL n l).length (pageCells (allL n l)) ∧ Below w.heap.size w w' := by
  obtain ⟨N, hN⟩ : ∃ N, l.length = N := ⟨_, rfl⟩
  obtain ⟨g, ha, hg, hcell⟩ := hl
  obtain rfl := ha hne
  have hN0 : 0 < N := by rw [← hN]; exact List.length_pos_iff.2 hne
  have HPI : Hid (∀ W, Below w.heap.size w W → PagesIn W (some ⟨g, 0, none⟩) l) := fun W hB => ⟨g, fun _ => rfl, Nat.lt_of_lt_of_le hg hB.size, fun i hi => ⟨(hB.cell (p := ⟨g, i * 2, none⟩) hg).trans (hcell i hi).1, (hB.cell (p := ⟨g, i * 2 + 1, none⟩) hg).trans (hcell i hi).2⟩⟩
  have HLI : Hid (∀ W, Below w.heap.size w W → _) := fun W hB => list10_any (some ⟨g, 0, none⟩) cap l W (HPI.out W hB) hn hat
  have HTO : Hid (∀ W, Below w.heap.size w W → _) := fun W hB => head10_any (some ⟨g, 0, none⟩) cap l W (HPI.out W hB) hn hat hsz
  have HPG := fun W => rpages_any n W h1 h2
  have hpb := jPages_bd n
  have HRW := fun W => rows_any (jPages n) W hpb.1 (by omega)
  have hjb := jBlocks_le hpb.1
  have hjc : jCopies n = 2 + jBlocks (jPages n) := rfl
  have HTX : Hid (∀ k W, Below w.heap.size w W → k < N → W.cell? ⟨g, k * 2 + 1, none⟩ = some (.string (l.getD k (0, ⟨#[]⟩)).2)) := fun k W hB hk => (HPI.out W hB).elim fun g' h => by
    obtain ⟨e, _, hc⟩ := h
    obtain rfl : g = g' := by have := e hne; simpa using this
    exact (hc k (by omega)).2
  have HCT : Hid (∀ i, i < N → (copiesL n l).take (i + 1) = (copiesL n l).take i ++ [(2 + jBlocks (jPages n) + (i : Int), (l.getD i (0, ⟨#[]⟩)).2)]) := fun i hi => copiesL_take n l (by omega)
  have HCA : Hid ((copiesL n l).take N = copiesL n l) := by show _ = _; rw [← hN]; exact copiesL_all n l
  generalize jPages n = pg at *
  generalize jBlocks pg = jb at *
  rw [hN] at hn ⊢
  clear hat hsz ha hcell hjc h1 h2
  have HRT : Hid (∀ k, k < (jList l).length → (rowsL l).take (k + 1) = (rowsL l).take k ++ [(2 + (k : Int), (jList l).getD k ⟨#[]⟩)]) := fun k hk => rowsL_take l hk
  have HRA : Hid ((rowsL l).take (jList l).length = rowsL l) := rowsL_all l
  have hRl : (jList l).length ≤ 64 := by rw [jList_length]; omega
  obtain ⟨X, HX⟩ : ∃ X, Hid (allL n l = X) := ⟨_, Lib.hid rfl⟩
  have HXS : Hid ((((copiesL n l ++ rowsL l) ++ [(1, jTop l)]) ++ l) ++ [(1, fill ⟨#[]⟩)] = X) := by
    show _ = _
    rw [← HX.out, allL, homeL]
    simp
  rw [HX.out]
  have HXL : Hid (N + (jList l).length + 1 + N + 1 = X.length) := by
    show _ = _
    rw [← HXS.out]
    simp [copiesL, rowsL, hN]
    omega
  clear HX
  have hnz : ((N : Int) == 0) = false := by simp; omega
  generalize copiesL n l = cl at *
  generalize rowsL l = rl at *
  generalize jList l = js at *
  generalize jTop l = jt at *
  rw [hN] at HLI HTO
  go_enter Tryz.func101, Tryz.ntmps101
  go_wp2
  go_loopw [5, 15] (fun vo vi wr => ∃ (i : Nat) (ao : Option Addr) (co : Nat), vo = .slice ao i co ∧ vi = .int .i64 i ∧ i ≤ N ∧ Hid (wr.ownsRow w.heap.size 78 2 (.slice ao i co) i (pageCells (cl.take i))) ∧ Below w.heap.size w wr) (fun _ vi _ => N - (intOf vi).toNat)
  case atStart => exact ⟨0, none, 0, rfl, rfl, by omega, World.ownsRow_nil _ _ _ _, Below.refl _ _⟩
  case round =>
    obtain ⟨i, ao, co, rfl, rfl, hi, HO, hB⟩ := hrel
    by_cases hlt : i < N
    · have hc := HTX.out i wr.drew hB.drew hlt
      obtain ⟨ao', co', w3, q1, q2, q3, -⟩ := push_page HO.out ((Below.refl wr.heap.size wr).drew) hB.size (by omega) (2 + jb + (i : Int)) (l.getD i (0, ⟨#[]⟩)).2
      rw [← HCT.out i hlt] at q2
      have Q2 := Lib.hid q2
      have Q3 := Lib.hid (hB.trans q3)
      generalize (l.getD i (0, ⟨#[]⟩)).2 = x at *
      clear HCT HCA HTX HTO HLI HPI q2 q3
      have hw1 : IntKind.i64.wrap (2 + jb) = 2 + jb := by rw [IntKind.wrap_i64]; omega
      have hw2 : IntKind.i64.wrap (2 + jb + (i : Int)) = 2 + jb + (i : Int) := by rw [IntKind.wrap_i64]; omega
      go_upto_region 7 with fail
      go_region_law (first
        | (refine step_append_run q1 rfl rfl rfl rfl rfl ?_)
        | (go_simp; go_at_call 98; refine (HPG _).mono ?_; rintro e w' ⟨rfl, rfl⟩)
        | (go_simp; go_at_call 127; refine (HRW _).mono ?_; rintro e w' ⟨rfl, rfl⟩))
      all_goals
        go_wp2
        go_roundw
        case rel => exact ⟨i + 1, ao', co', rfl, by go_num, by omega, Q2, Q3.out⟩
        case measure => simp [intOf]; omega
    · obtain rfl : i = N := by omega
      rw [HCA.out] at HO
      clear hlt hi HCA HCT HTX
      have HTO2 := HTO
      go_wp2_with fail
      refine (HLI.out _ hB).mono ?_
      rintro e w1 ⟨al, cl2, rfl, hown, hB1⟩
      have HOW := Lib.hid (ownsRow_base hown hB.size)
      have HO1 := Lib.hid (ownsRow_made HO.out hB1)
      have hBw : Below w.heap.size w w1 := hB.trans (hB1.mono hB.size)
      clear hown HO HLI hB hB1
      generalize hR : js.length = R at *
      go_wp2
      go_loopw [5, 38] (fun vo vi wr => ∃ (k : Nat) (ao : Option Addr) (co : Nat), vo = .slice ao (i + k) co ∧ vi = .int .i64 k ∧ k ≤ R ∧ Hid (wr.ownsRow w.heap.size 78 2 (.slice ao (i + k) co) (i + k) (pageCells (cl ++ rl.take k))) ∧ Hid (wr.ownsRow w.heap.size 9 1 (.slice al R cl2) R (js.map Value.string)) ∧ Below w.heap.size w wr) (fun _ vi _ => R - (intOf vi).toNat)
      case atStart => exact ⟨0, ao, co, rfl, rfl, by omega, by rw [List.take_zero, List.append_nil]; exact HO1, HOW, hBw⟩
      case round =>
        obtain ⟨k, ao2, co2, rfl, rfl, hk, HO, HOW, hB⟩ := hrel
        clear HO1 hBw
        by_cases hlt : k < R
        · have hlt' : k < js.length := by omega
          obtain ⟨g2, rfl⟩ : ∃ g2, al = some ⟨g2, 0, none⟩ := by
            rcases HOW.out.2 with ⟨h, h0⟩ | ⟨g2, cap2, cur, h, _⟩
            · omega
            · simp only [Value.slice.injEq] at h; exact ⟨g2, h.1⟩
          have hc := HOW.out.cellAt k (by omega)
          rw [List.getElem?_map, List.getElem?_eq_getElem hlt'] at hc
          simp only [Option.map_some] at hc
          have hgd : js.getD k ⟨#[]⟩ = js[k] := by rw [List.getD_eq_getElem?_getD, List.getElem?_eq_getElem hlt']; rfl
          obtain ⟨ao3, co3, w3, q1, q2, q3, q4⟩ := push_page HO.out (Below.refl wr.heap.size wr) hB.size (by omega) (2 + (k : Int)) js[k]
          rw [← hgd, List.append_assoc, ← HRT.out k (by omega)] at q2
          have HW3 := Lib.hid (ownsRow_congr HOW.out fun b hb => q4 b (HOW.out.lt b hb).2 (own_ne HOW.out HO.out (by decide) hb))
          have Q1 := Lib.hid q1
          have Q2 := Lib.hid q2
          have Q3 := Lib.hid (hB.trans q3)
          clear q1 q2 q3 q4 HRT HRA HXS HXL HTO HOW HO hgd
          generalize js[k] = x at *
          go_wp2_with (at_builtin; refine wpList_append_run Q1.out rfl rfl rfl rfl rfl ?_)
          go_roundw
          case rel => exact ⟨k + 1, ao3, co3, rfl, by go_num, by omega, Q2, HW3, Q3.out⟩
          case measure => simp [intOf]; omega
        · obtain rfl : k = R := by omega
          rw [HRA.out] at HO
          go_wp2_with fail
          refine (HTO.out _ hB).mono ?_
          rintro e w2 ⟨rfl, hB2⟩
          obtain ⟨ao3, co3, w3, q1, q2, q3, -⟩ := push_page HO.out hB2 hB.size (by omega) 1 jt
          have hB3 := hB.trans q3
          obtain ⟨ao4, co4, w4, r1, r2, r3, -⟩ := push_pages q2 (Below.refl w3.heap.size w3) hB3.size l g cap (pagesIn_cells (HPI.out w3 hB3)) (by omega)
          have hB4 := hB3.trans r3
          rw [hN] at r1 r2
          have HP : Hid (∀ W, Below w4.heap.size w4 W → _) := fun W hW => push_page r2 hW hB4.size (by omega) 1 (fill ⟨#[]⟩)
          rw [HXS.out] at HP
          have Q1 := Lib.hid q1
          have R1 := Lib.hid r1
          clear HO HOW HTO HPI q1 q2 q3 r1 r2 r3 HRA HRT HXS hB hB2 hB3
          go_upto_region 16 with (at_builtin; refine wpList_append_run Q1.out rfl rfl rfl rfl rfl ?_)
          go_wp2_with (at_builtin; refine wpList_append_run R1.out rfl rfl rfl rfl rfl ?_)
          refine (jblock_any ⟨#[]⟩ _ (by decide)).mono ?_
          rintro e w5 ⟨rfl, hB5⟩
          obtain ⟨ao6, co6, w6, s1, s2, s3, -⟩ := HP.out w5 hB5
          have S1 := Lib.hid s1
          have S2 := Lib.hid s2
          have S3 := Lib.hid (hB4.trans s3)
          clear s1 s2 s3 HP Q1 R1
          go_wp2_with (at_builtin; refine wpList_append_run S1.out rfl rfl rfl rfl rfl ?_)
          go_ret
          rw [← HXL.out]
          exact ⟨ao6, co6, rfl, S2.out, S3.out⟩
end Go.Proofs.YtdoankamaobkoaaGreat
