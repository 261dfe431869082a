/- journal.told where a group stands. -/
import Derived.Test.YtdoankamaobkoaaGreatDoorCut
set_option linter.unusedSimpArgs false
set_option linter.unusedVariables false
namespace Go.Proofs.YtdoankamaobkoaaGreatDoor
open Go.RowKit Go.Maps Go.Shelf

theorem read_blk {w : World} {d bb : Nat} {lg : Value} {D : Dsk} (h : DiskAt w d bb lg D) (hd : D.down = false) {i : Int} (h0 : 0 ≤ i) (h1 : i < D.n) {x : ByteArray} (hx : D.blk i = x) :
    Calls Tryz.prog 80 #[.pointer (some ⟨d, 0, none⟩), .int .i64 i] w fun e w' => e = .returned (.tuple #[.string x, .int .i64 0]) ∧ w = w' := by
  have hr : D.read i = (x, 0) := by
    unfold Dsk.read
    have : D.may i = 0 := by unfold Dsk.may; rw [if_neg (by simp [hd]), if_neg (by omega)]
    rw [if_pos this, ← hx]; rfl
  have := read_any h i
  rwa [hr] at this
theorem pagesIn_of {w : World} {base cap : Nat} {ao : Option Addr} {l : Pgs} (hne : l ≠ []) (h : w.ownsRow base 112 2 (.slice ao l.length cap) l.length (pageCells l)) :
    ∃ g og, ao = some ⟨g, 0, none⟩ ∧ w.heap[g]? = some og ∧ RowP og l ∧ base ≤ g := by
  have hpos : 1 ≤ l.length := List.length_pos_iff.2 hne
  obtain ⟨g, rfl⟩ : ∃ g, ao = some ⟨g, 0, none⟩ := by
    rcases h.2 with ⟨h, h0⟩ | ⟨gd, cap2, cur, h, _⟩
    · omega
    · simp only [Value.slice.injEq] at h; exact ⟨gd, h.1⟩
  obtain ⟨og, ho, hr⟩ := rowP_of rfl h
  exact ⟨g, og, rfl, ho, hr, (h.lt g rfl).1⟩
theorem RowP.pagesIn {w : World} {g : Nat} {og : Obj} {l : Pgs} (hg : w.heap[g]? = some og) (h : RowP og l) : PagesIn w (some ⟨g, 0, none⟩) l :=
  ⟨g, fun _ => rfl, lt_of hg, fun i hi => by
    rw [show l.getD i (0, ⟨#[]⟩) = l[i] by simp [hi]]
    exact h.cell hg hi⟩

set_option maxHeartbeats 4000000 in
set_option maxRecDepth 100000 in
theorem told_pend {w : World} {d bb : Nat} {lg : Value} {D : Dsk} {l : Pgs} (h : DiskAt w d bb lg D) (hd : D.down = false) (n1 : 64 ≤ D.n) (n2 : D.n ≤ 2048) (hp : PendB D.n D.blk l) :
    Calls Tryz.prog 81 #[.pointer (some ⟨d, 0, none⟩), .string (jTop l)] w fun e w' => ∃ g cap og, e = .returned (.tuple #[.slice (some ⟨g, 0, none⟩) l.length cap, .int .i64 0]) ∧ w'.heap[g]? = some og ∧ RowP og l ∧ w.heap.size ≤ g ∧ Below w.heap.size w w' := by
  obtain ⟨c1, c2, c3, c4, c5⟩ := jCopies_bd n1 n2
  obtain ⟨m1, m2⟩ := jMay_ok hp.may
  have hfew := jList_few m1
  have hat : ∀ q ∈ l, 0 ≤ q.1 ∧ q.1 < 65536 := fun q hq => by have := page_lt n1 n2 (m2 q hq).1; omega
  have hF := first_pos n1 n2
  have hjb := jBlocks_le (m := jPages D.n) (by omega)
  have hsp := jPages_spec n1 n2
  have hls := jList_length l
  have hpos : 1 ≤ l.length := List.length_pos_iff.2 hp.ne
  have HG := Lib.hid (fun W => get_any (jTop l) 4 2 W (by omega) (by omega) (by rw [jTop_size]; omega) (by rw [jTop_size]; omega))
  rw [top_get (l := l) (by omega)] at HG
  have HP := Lib.hid (fun W => prefix_yes (jTop l) jMark W (jTop_size l) rfl (top_mark l))
  have HLN : Hid (∀ W, Below w.heap.size w W → Calls Tryz.prog 49 #[.pointer (some ⟨d, 0, none⟩)] W fun e w' => e = .returned (.int .i64 D.n) ∧ W = w') := fun W hB => len_any (h.below hB)
  have HR1 : Hid (∀ W j, Below w.heap.size w W → j < l.length → Calls Tryz.prog 80 #[.pointer (some ⟨d, 0, none⟩), .int .i64 (2 + (j : Int) / 128)] W fun e w' => e = .returned (.tuple #[.string ((jList l).getD (j / 128) ⟨#[]⟩), .int .i64 0]) ∧ W = w') := fun W j hB hj => by
    have hr := hp.rows (j / 128) (by omega)
    rw [show (((j / 128 : Nat)) : Int) = (j : Int) / 128 by omega] at hr
    exact read_blk (h.below hB) hd (by omega) (by omega) hr
  have HR2 : Hid (∀ W j, Below w.heap.size w W → j < l.length → Calls Tryz.prog 80 #[.pointer (some ⟨d, 0, none⟩), .int .i64 (2 + jBlocks (jPages D.n) + (j : Int))] W fun e w' => e = .returned (.tuple #[.string (l.getD j (0, ⟨#[]⟩)).2, .int .i64 0]) ∧ W = w') := fun W j hB hj =>
    read_blk (h.below hB) hd (by omega) (by omega) (by rw [← c5]; exact hp.copies j hj)
  have HR3 : Hid (∀ W j, Below w.heap.size w W → j < (jList l).length → Calls Tryz.prog 80 #[.pointer (some ⟨d, 0, none⟩), .int .i64 (2 + (j : Int))] W fun e w' => e = .returned (.tuple #[.string ((jList l).getD j ⟨#[]⟩), .int .i64 0]) ∧ W = w') := fun W j hB hj =>
    read_blk (h.below hB) hd (by omega) (by omega) (hp.rows j hj)
  have HGN : Hid (∀ W j, j < l.length → Calls Tryz.prog 106 #[.string ((jList l).getD (j / 128) ⟨#[]⟩), .int .i64 ((j : Int) % 128 * 2), .int .i64 (2 : Nat)] W fun e w' => e = .returned (.tuple #[.int .u64 ((l.getD j (0, ⟨#[]⟩)).1.toNat), .int .i64 0]) ∧ W = w') := fun W j hj => by
    have hsz : ((jList l).getD (j / 128) ⟨#[]⟩).size = 256 := jList_sizes l _ (by rw [List.getD_eq_getElem?_getD, List.getElem?_eq_getElem (by omega)]; exact List.getElem_mem _)
    have := get_any ((jList l).getD (j / 128) ⟨#[]⟩) (j % 128 * 2) 2 W (by omega) (by omega) (by omega) (by omega)
    rw [rows_get hj hat, show ((j % 128 * 2 : Nat) : Int) = (j : Int) % 128 * 2 by push_cast; rfl] at this
    exact this
  have HLI : Hid (∀ a cap W, PagesIn W a l → Calls Tryz.prog 107 #[.slice a l.length cap] W fun e w' => ∃ v, e = .returned v ∧ w'.ownsRow W.heap.size 9 1 v (jList l).length ((jList l).map Value.string) ∧ Below W.heap.size W w') := fun a cap W hP => list_any a cap l W hP (by omega) hat
  have HMY : Hid (∀ a cap W, PagesIn W a l → Calls Tryz.prog 97 #[.int .i64 D.n, .slice a l.length cap] W fun e w' => e = .returned (.int .i64 0) ∧ Below W.heap.size W w') := fun a cap W hP => by
    have := jmay_any D.n a cap l W hP (fun q hq => by
      have := hat q hq
      simp [Lit.wf, show IntKind.i64.min = -9223372036854775808 from rfl, show IntKind.i64.max = 9223372036854775807 from rfl]; omega) (by omega)
    rwa [hp.may] at this
  have HTP : Hid (∀ a cap W, PagesIn W a l → Calls Tryz.prog 108 #[.slice a l.length cap] W fun e w' => e = .returned (.string (jTop l)) ∧ Below W.heap.size W w') := fun a cap W hP => top_any a cap l W hP (by omega) hat (fun q hq => by have := (m2 q hq).2; omega)
  have HAT : Hid (∀ j, j < l.length → ∃ x : Nat, (l.getD j (0, ⟨#[]⟩)).1 = (x : Int) ∧ x < 65536) := fun j hj => by
    have := hat (l.getD j (0, ⟨#[]⟩)) (by rw [List.getD_eq_getElem?_getD, List.getElem?_eq_getElem hj]; exact List.getElem_mem _)
    exact ⟨(l.getD j (0, ⟨#[]⟩)).1.toNat, by omega, by omega⟩
  have HNE := Lib.hid hp.ne
  have HPG : Hid (∀ W, Calls Tryz.prog 70 #[.int .i64 D.n] W fun e w' => e = .returned (.int .i64 (jPages D.n)) ∧ W = w') := fun W => pages_any _ W
  have HCP : Hid (∀ W, Calls Tryz.prog 93 #[.int .i64 D.n] W fun e w' => e = .returned (.int .i64 (2 + jBlocks (jPages D.n))) ∧ W = w') := fun W => copies_any _ W
  have hu1 : IntKind.u64.wrap (jPages D.n) = jPages D.n := wraps_u64 _ (by omega) (by omega)
  obtain ⟨m, HM⟩ : ∃ m, Hid (l.length = m) := ⟨_, Lib.hid rfl⟩
  rw [HM.out] at HG hpos m1 hls HLI HMY HTP HAT HGN HR1 HR2 ⊢
  have hmm : m ≤ 1024 := by omega
  obtain ⟨M, HMM⟩ : ∃ M, Hid ((jList l).length = M) := ⟨_, Lib.hid rfl⟩
  rw [HMM.out] at HLI HR3 hls
  clear h hp hat m2 hF hsp hfew c1 c2 c5
  generalize jTop l = tp at *
  unfold jMark at HP
  generalize jPages D.n = pg at *
  generalize D.n = z at *
  go_enter Tryz.func81, Tryz.ntmps81
  go_wp2_with (first
    | (go_at_call 106; refine (HG.out _).mono ?_; rintro e w' ⟨rfl, rfl⟩)
    | (go_at_call 75; refine (HP.out _).mono ?_; rintro e w' ⟨rfl, rfl⟩)
    | (go_at_call 49; refine (HLN.out _ (Below.refl _ _)).mono ?_; rintro e w' ⟨rfl, rfl⟩)
    | (go_at_call 70; refine (HPG.out _).mono ?_; rintro e w' ⟨rfl, rfl⟩))
  clear HG HP hu1 HPG
  go_loopw [8, 41] (fun v u wr => ∃ (j : Nat) (ao : Option Addr) (co : Nat), v = .slice ao j co ∧ u = .int .i64 j ∧ j ≤ m ∧ Hid (wr.ownsRow w.heap.size 112 2 (.slice ao j co) j (pageCells (l.take j))) ∧ Hid (Below w.heap.size w wr)) (fun _ u _ => m - (intOf u).toNat)
  case atStart => exact ⟨0, none, 0, rfl, rfl, by omega, Lib.hid (World.ownsRow_nil _ _ _ _), Lib.hid (Below.refl _ _)⟩
  case round =>
    obtain ⟨j, ao, co, rfl, rfl, hj, HO, HB⟩ := hrel
    by_cases hlt : j < m
    · obtain ⟨x, hx, hx2⟩ := HAT.out j hlt
      have hlt' : j < l.length := by rw [HM.out]; exact hlt
      have r1 := HR1.out wr j HB.out hlt
      have r2 := HR2.out wr j HB.out hlt
      have r3 := HGN.out wr j hlt
      have hkl : (l.take j).length = j := by rw [List.length_take]; omega
      obtain ⟨ao2, co2, w3, hrun, hown3, hBl3⟩ := pages_append wr w.heap.size (.slice ao j co) (l.take j) (l.getD j (0, ⟨#[]⟩)).1 (l.getD j (0, ⟨#[]⟩)).2 (by rw [hkl]; exact HO.out) (by omega) HB.out.size
      rw [hkl] at hrun hown3
      rw [show l.take j ++ [((l.getD j (0, ⟨#[]⟩)).1, (l.getD j (0, ⟨#[]⟩)).2)] = l.take (j + 1) by
        rw [List.take_succ_eq_append_getElem hlt', List.getD_eq_getElem?_getD, List.getElem?_eq_getElem hlt']; rfl] at hown3
      have HOWN3 := Lib.hid hown3
      have HB3 := Lib.hid (hBl3 w w.heap.size HB.out (Nat.le_refl _) (Nat.le_refl _))
      rw [hx] at hrun r3
      rw [show ((x : Int)).toNat = x by omega] at r3
      clear hown3 hBl3 hx hlt' hkl
      generalize (l.getD j (0, ⟨#[]⟩)).2 = sx at *
      generalize (jList l).getD (j / 128) ⟨#[]⟩ = nx at *
      go_wp2_with fail
      refine r1.mono ?_
      rintro e w' ⟨rfl, rfl⟩
      clear r1
      go_wp2_with (first
        | (go_at_call 49; refine (HLN.out _ HB.out).mono ?_; rintro e w' ⟨rfl, rfl⟩)
        | (go_at_call 93; refine (HCP.out _).mono ?_; rintro e w' ⟨rfl, rfl⟩))
      refine r2.mono ?_
      rintro e w' ⟨rfl, rfl⟩
      clear r2
      go_wp2_with fail
      refine r3.mono ?_
      rintro e w' ⟨rfl, rfl⟩
      clear r3
      go_wp2_with (at_builtin; refine wpList_append_run hrun rfl rfl rfl rfl rfl ?_)
      go_roundw
      case rel => exact ⟨j + 1, ao2, co2, rfl, by go_num, by omega, HOWN3, HB3⟩
      case measure => simp [intOf]; omega
    · obtain rfl : j = m := by omega
      have hown := HO.out
      rw [List.take_of_length_le (by rw [HM.out]; exact Nat.le_refl _)] at hown
      obtain ⟨g, og, rfl, hog, hrow, hgl⟩ : ∃ g og, ao = some ⟨g, 0, none⟩ ∧ wr.heap[g]? = some og ∧ RowP og l ∧ w.heap.size ≤ g := pagesIn_of (cap := co) HNE.out (by rw [HM.out]; exact hown)
      have hL := HLI.out (some ⟨g, 0, none⟩) co wr (hrow.pagesIn hog)
      have HOG := Lib.hid hog
      have HROW := Lib.hid hrow
      have HL := Lib.hid hL
      clear hL hown HO HR1 HR2 HGN HLI hog hrow
      go_wp2_with fail
      refine HL.out.mono ?_
      rintro e w1 ⟨v, rfl, hown, hB1⟩
      obtain ⟨a1, cap1, rfl⟩ := ownsRow_slice hown
      have HOWN := Lib.hid hown
      have HB1 := Lib.hid (HB.out.trans (hB1.mono HB.out.size))
      have HG1 := Lib.hid ((hB1.block g (lt_of HOG.out)).trans HOG.out)
      clear hown hB1 HL HB HOG
      go_wp2
      go_loopw [87] (fun u wr => ∃ k : Nat, u = .int .i64 k ∧ k ≤ M ∧ wr = w1) (fun u _ => M - (intOf u).toNat)
      case atStart => exact ⟨0, rfl, by omega, rfl⟩
      case round =>
        obtain ⟨k, rfl, hk, rfl⟩ := hrel
        by_cases hlt2 : k < M
        · obtain ⟨g2, rfl⟩ : ∃ g2, a1 = some ⟨g2, 0, none⟩ := by
            rcases HOWN.out.2 with ⟨h, h0⟩ | ⟨g2, cap2, cur, h, _⟩
            · omega
            · simp only [Value.slice.injEq] at h; exact ⟨g2, h.1⟩
          have hc := HOWN.out.cellAt k (by omega)
          have hkl : k < (jList l).length := by rw [HMM.out]; exact hlt2
          rw [List.getElem?_map, List.getElem?_eq_getElem hkl] at hc
          simp only [Option.map_some] at hc
          have hge : (jList l)[k] = (jList l).getD k ⟨#[]⟩ := by rw [List.getD_eq_getElem?_getD, List.getElem?_eq_getElem hkl]; rfl
          rw [hge] at hc
          have r3 := HR3.out wr k HB1.out hlt2
          clear hge hkl
          generalize (jList l).getD k ⟨#[]⟩ = x at *
          go_wp2_with fail
          refine r3.mono ?_
          rintro e w' ⟨rfl, rfl⟩
          clear r3
          go_wp2
          go_roundw
          case rel => exact ⟨k + 1, by go_num, by omega, trivial⟩
          case measure => simp [intOf]; omega
        · obtain rfl : k = M := by omega
          have hM := HMY.out (some ⟨g, 0, none⟩) co wr (HROW.out.pagesIn HG1.out)
          have HMM2 := Lib.hid hM
          clear hM HOWN HR3
          go_wp2_with (go_at_call 49; refine (HLN.out _ HB1.out).mono ?_; rintro e w' ⟨rfl, rfl⟩)
          refine HMM2.out.mono ?_
          rintro e w2 ⟨rfl, hB2⟩
          have HB2 := Lib.hid (HB1.out.trans (hB2.mono HB1.out.size))
          have HG2 := Lib.hid ((hB2.block g (lt_of HG1.out)).trans HG1.out)
          have HT2 := Lib.hid (HTP.out (some ⟨g, 0, none⟩) co w2 (HROW.out.pagesIn HG2.out))
          clear hB2 HMM2 HMY HTP
          go_wp2_with fail
          refine HT2.out.mono ?_
          rintro e w3 ⟨rfl, hB3⟩
          have HB3 := Lib.hid (HB2.out.trans (hB3.mono HB2.out.size))
          have HG3 := Lib.hid ((hB3.block g (lt_of HG2.out)).trans HG2.out)
          clear hB3 HT2
          go_wp2
          go_ret2
          exact ⟨g, co, og, rfl, HG3.out, HROW.out, hgl, HB3.out⟩
end Go.Proofs.YtdoankamaobkoaaGreatDoor
