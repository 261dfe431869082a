/- The iterator journal.all. -/
import Derived.Test.YtmgcaohpbaiiaaaGreatDoorJ1
import Derived.Stop.RegionWithIn
set_option linter.unusedSimpArgs false
set_option linter.unusedVariables false
namespace Go.Proofs.YtmgcaohpbaiiaaaGreatDoor
open Go.RowKit Go.Maps Go.Shelf

attribute [local go_sem] Oper.semAt_some wide_room wide_fn wide_room_in wide_fn_in

def jCopies (n : Int) : Int := 2 + jBlocks (jPages n)
def copiesL (n : Int) (l : Pgs) : Pgs := (List.range l.length).map fun (i : Nat) => (jCopies n + (i : Int), (l.getD i (0, ⟨#[]⟩)).2)
def rowsL (l : Pgs) : Pgs := (List.range (jList l).length).map fun (i : Nat) => (2 + (i : Int), (jList l).getD i ⟨#[]⟩)
def allL (n : Int) (l : Pgs) : Pgs := copiesL n l ++ (rowsL l ++ ((1, jTop l) :: homeL l))

/-- the same post, no panic let by -/
def noPanic (Q : Exit → Act → World → Prop) : Exit → Act → World → Prop
  | .panic _, _, _ => False
  | e, a, w => Q e a w
theorem noPanic_le {Q : Exit → Act → World → Prop} (e : Exit) (a : Act) (w : World) (h : noPanic Q e a w) : Q e a w := by
  cases e <;> first | exact h | exact h.elim

theorem home_any (a : Option Addr) (k c : Nat) (w : World) :
    Calls Tryz.prog 105 #[.slice a k c] w fun e w' => e = .returned (.func (.func 153) #[] #[.pointer (some ⟨w.heap.size, 0, none⟩)]) ∧ w' = w.alloc (.cells #[.slice a k c] 110) := by
  go_enter Tryz.func105, Tryz.ntmps105
  go_wp2
  go_ret
  exact ⟨rfl, rfl⟩

/-- cells lie on where what is no cells turns -/
theorem Safe.own {β : Type} {d bb B : Nat} {X : Nat → Prop} {ps : List (Nat × Obj)} (hc : ∀ p ∈ ps, p.2.isCells = true) : OwnFrom B (fun (_ : β) W => Safe d bb X W ps) := by
  intro s W W' row hs hg hr
  obtain ⟨lg, S, hD, hp⟩ := hs
  have keep : ∀ (b : Nat) (o : Obj), W.heap[b]? = some o → Obj.isCells o = true → W'.heap[b]? = some o := by
    intro b o hb ho
    refine (hg.block b (lt_of hb) (fun e => ?_)).trans hb
    obtain ⟨_, o', ho', hn⟩ := hr b e.symm
    rw [hb] at ho'
    simp at ho'
    subst ho'
    rw [ho] at hn
    simp at hn
  refine ⟨lg, S, hD.keep fun b cs T f hb _ _ => (keep b _ hb rfl).trans hb.symm, fun p hpm => ⟨keep _ _ (hp p hpm).1 (hc p hpm), (hp p hpm).2⟩⟩
theorem OwnFrom.up {β : Type} {B C : Nat} {I : β → World → Prop} (h : OwnFrom B I) (hBC : B ≤ C) : OwnFrom C I := fun s W W' row hs hg hr => h s W W' row hs hg (fun r e => ⟨Nat.le_trans hBC (hr r e).1, (hr r e).2⟩)
theorem KD.keepsFrom {d bb B : Nat} {X : Nat → Prop} {W W' : World} {ps : List (Nat × Obj)} (k : KD d bb X W W') (hs : Safe d bb X W ps) (hX : ∀ b, X b → b < B) : KeepsFrom B W W' := by
  obtain ⟨lg, S, hD, _⟩ := hs
  obtain ⟨lg1, S1, _, hsz, hf, _⟩ := k lg S hD
  refine ⟨hsz, fun b o hB hb ho => hf b o hb (fun hd => ?_) (fun hx => by have := hX b hx; omega)⟩
  obtain ⟨cs, T, hb', _⟩ := hD.fp_cells hd
  rw [hb] at hb'
  simp at hb'
  subst hb'
  simp [Obj.isCells] at ho

theorem range_take {β : Type} (f : Nat → β) {n j : Nat} (h : j < n) : ((List.range n).map f).take (j + 1) = ((List.range n).map f).take j ++ [f j] := by
  rw [List.take_succ_eq_append_getElem (by simpa using h)]
  simp

set_option maxRecDepth 100000 in
set_option maxHeartbeats 4000000 in
theorem all1_yields {d bb : Nat} {X : Nat → Prop} {l : Pgs} {w0 : World} {B1 B2 g cap : Nat} {m : Int} {o1 o2 og : Obj} (ho1 : o1 = .cells #[.slice (some ⟨g, 0, none⟩) l.length cap] 110 (0, 0)) (ho2 : o2 = .cells #[.int .i64 m] 3 (0, 0)) (hog : RowP og l) (hn : l.length ≤ 4096) (hne : l ≠ [])
    (hat : ∀ q ∈ l, 0 ≤ q.1 ∧ q.1 < 65536) (hsz : ∀ q ∈ l, q.2.size = 256)
    (hX : ∀ b, X b → b < w0.heap.size) (hS : Safe d bb X w0 [(B1, o1), (B2, o2), (g, og)]) :
    Yields 181 #[.pointer (some ⟨B1, 0, none⟩), .pointer (some ⟨B2, 0, none⟩)] (allL m l) (fun l2 => KD d bb (fun b => b = l2 ∨ X b)) w0 := by
  intro n l2 J Jx W hB hl2 hlt2 hrec hJ hJx hY h0
  have hSW : Safe d bb (fun b => b = l2 ∨ X b) W [(B1, o1), (B2, o2), (g, og)] := by
    refine (hS.kd (KD.below hB)).also (Y := fun b => b = l2) (by
      intro p hp e
      have hb := lt_of (hS.obj (b := p.1) (o := p.2) hp)
      omega)
  have hXb : ∀ b, (b = l2 ∨ X b) → b < W.heap.size := by
    intro b hb
    have := hB.size
    rcases hb with h | h
    · omega
    · have := hX b h; omega
  obtain ⟨oY, hoY⟩ : ∃ oY : Obj, oY = .cells #[.func (.yield l2) #[] #[]] 222 (0, 0) := ⟨_, rfl⟩
  have hSY : Safe d bb (fun b => b = l2 ∨ X b) (W.alloc oY) [(W.heap.size, oY), (B1, o1), (B2, o2), (g, og)] :=
    hSW.add ((Below.refl _ W).alloc (Nat.le_refl _) _) (fun b hb => by have := hXb b hb; omega) (Nat.le_refl _) (heap_alloc_new' W _)
  have hJY : J [] (W.alloc oY) := hJ.alloc _ h0
  have hP := jPages_bd m
  have hBl := jBlocks_le hP.1
  have hJC : Hid (jCopies m = 2 + jBlocks (jPages m)) := rfl
  obtain ⟨N, hN⟩ : ∃ N, N = l.length := ⟨_, rfl⟩
  rw [← hN] at ho1 hn
  have HN := Lib.hid hN
  clear hN
  have cell1 : ∀ w, Safe d bb (fun b => b = l2 ∨ X b) w [(W.heap.size, oY), (B1, o1), (B2, o2), (g, og)] → w.cell? ⟨W.heap.size, 0, none⟩ = some (.func (.yield l2) #[] #[]) ∧ w.cell? ⟨B1, 0, none⟩ = some (.slice (some ⟨g, 0, none⟩) N cap) ∧ w.cell? ⟨B2, 0, none⟩ = some (.int .i64 m) := by
    intro w hw
    refine ⟨?_, ?_, ?_⟩
    · have := cell_of ((hw.obj (b := W.heap.size) (o := oY) (by simp)).trans (by rw [hoY])) 0; simpa using this
    · have := cell_of ((hw.obj (b := B1) (o := o1) (by simp)).trans (by rw [ho1])) 0; simpa using this
    · have := cell_of ((hw.obj (b := B2) (o := o2) (by simp)).trans (by rw [ho2])) 0; simpa using this
  have CELL := Lib.hid cell1
  have hpi : ∀ w, Safe d bb (fun b => b = l2 ∨ X b) w [(W.heap.size, oY), (B1, o1), (B2, o2), (g, og)] → PagesIn w (some ⟨g, 0, none⟩) l := by
    intro w hw
    refine ⟨g, fun _ => rfl, lt_of (hw.obj (b := g) (o := og) (by simp)), fun i hi => ?_⟩
    have := hog.cell (hw.obj (b := g) (o := og) (by simp)) hi
    rw [show l.getD i (0, ⟨#[]⟩) = l[i] by simp [hi]]
    exact this
  have HPI := Lib.hid hpi
  have hcopies := fun w => copies_any m w
  have HCO := Lib.hid hcopies
  obtain ⟨cy, c1, c2⟩ := cell1 _ hSY
  subst hoY
  clear hSW h0 cell1 hcopies hpi
  refine callsIn_of_wp_marks Tryz.func181 rfl trivial ?_ rfl
  simp only [Tryz.ntmps181, List.size_toArray, List.length_cons, List.length_nil, Nat.reduceAdd, Nat.reduceSub, Array.replicate_succ, Array.replicate_zero, List.push_toArray, List.append_toArray, List.nil_append, List.cons_append]
  refine wpIn_mono (Q := noPanic _) ?_ noPanic_le
  gi_wp2
  gi_loopw [11] (fun u wr => ∃ j : Nat, u = .int .i64 j ∧ j ≤ N ∧ J ((copiesL m l).take j) wr ∧ Safe d bb (fun b => b = l2 ∨ X b) wr [(W.heap.size, _), (B1, o1), (B2, o2), (g, og)] ∧ W.heap.size < wr.heap.size) (fun u _ => N - (intOf u).toNat)
  case atStart => exact ⟨0, rfl, by omega, hJY, hSY, by simp⟩
  case round =>
    obtain ⟨j, rfl, hj, hJj, hSj, hszj⟩ := hrel
    obtain ⟨cy', c1', c2'⟩ := CELL.out _ hSj
    clear hSY hJY cy c1 c2
    by_cases hlt : j < N
    · have hlt' : j < l.length := by have := HN.out; omega
      obtain ⟨hb0, hb1⟩ := hog.cell (hSj.obj (b := g) (o := og) (by simp)) hlt'
      have hge : l.getD j (0, ⟨#[]⟩) = l[j] := by simp [hlt']
      have htk : (copiesL m l).take (j + 1) = (copiesL m l).take j ++ [(jCopies m + (j : Int), l[j].2)] := by rw [← hge]; exact range_take _ hlt'
      have hpre : (copiesL m l).take j ++ [(jCopies m + (j : Int), l[j].2)] <+: allL m l := by
        rw [← htk]
        exact (List.take_prefix _ _).trans (List.prefix_append _ _)
      have hJ2 : J ((copiesL m l).take j) (wr.alloc (boxP l[j])).drew := OwnFrom.made hJ hJj (((Below.refl _ wr).alloc (Nat.le_refl _) _).drew)
      obtain ⟨fn, tmps, assign, body, hy, hR⟩ := hY _ _ _ hpre hJ2
      have hS2 := hSj.kd (KD.below (X := fun b => b = l2 ∨ X b) (((Below.refl _ wr).alloc (Nat.le_refl _) (boxP l[j])).drew))
      obtain ⟨cy2, c12, c22⟩ := CELL.out _ (hSj.kd (KD.alloc wr (boxP l[j])))
      unfold encP boxP at hy
      unfold boxP at hR hS2 cy2 c12 c22
      rw [← htk] at hR
      simp only at hy
      rw [hJC.out] at hy
      have hR2 := hR.mono (R' := fun e W' => ∃ b : Bool, e = .returned (.bool b) ∧ ((b = true ∧ J ((copiesL m l).take (j + 1)) W' ∧ KD d bb (fun b => b = l2 ∨ X b) (wr.alloc (.cells #[.int .i64 l[j].1, .string l[j].2] 218)).drew W') ∨ (b = false ∧ Jx ((copiesL m l).take (j + 1)) W' ∧ True))) (by
        rintro e W' (⟨rfl, h1, h2⟩ | ⟨rfl, h1, _⟩)
        · exact ⟨true, rfl, .inl ⟨rfl, h1, h2⟩⟩
        · exact ⟨false, rfl, .inr ⟨rfl, h1, trivial⟩⟩)
      clear hpre htk hJ2 hJj hSj hge hR
      generalize l[j].1 = y at *
      generalize l[j].2 = x at *
      have hw : IntKind.i64.wrap (2 + jBlocks (jPages m) + (j : Int)) = 2 + jBlocks (jPages m) + (j : Int) := IntWalk.i64_in _ (by omega)
      gi_wp2
      gi_region_with (first
        | (gi_at_call 141; refine (callsIn_wide.2 (HCO.out _)).mono ?_; rintro e w' ⟨rfl, rfl⟩)
        | (refine hR2.mono ?_; rintro e W3 ⟨b, rfl, hb⟩))
      all_goals
        rcases hb with ⟨rfl, hJ3, hk3⟩ | ⟨rfl, hJx3, _⟩
        · have hS3 := hS2.kd hk3
          have hz3 : W.heap.size < W3.heap.size := lt_of (hS3.obj (.head _))
          clear hk3 hS2 hb0 hb1 hw hR2 hy
          gi_wp2
          go_roundw
          case rel => exact ⟨j + 1, rfl, by omega, hJ3, hS3, hz3⟩
          case measure => simp [intOf]; omega
        · gi_wp2
          exact ⟨_, results_none rfl _ _ _, ⟨_, rfl⟩, .inr ⟨_, hJx3⟩⟩
    · obtain rfl : j = N := by omega
      rw [List.take_of_length_le (by have := HN.out; simp [copiesL]; omega)] at hJj
      have hll := list_any (some ⟨g, 0, none⟩) cap l wr (HPI.out wr hSj) (by have := HN.out; omega) hat
      rw [← HN.out] at hll
      have HLL := Lib.hid hll
      clear hll hlt
      gi_wp2
      refine (callsIn_wide.2 HLL.out).mono ?_
      rintro e w1 ⟨v, rfl, hown, hB1⟩
      clear HLL
      have hjl := jList_length l
      obtain ⟨rows, hrows⟩ : ∃ rows, rows = jList l := ⟨_, rfl⟩
      rw [← hrows] at hown hjl
      have hrl : 1 ≤ rows.length ∧ rows.length ≤ 64 := by
        have : 1 ≤ l.length := List.length_pos_iff.2 hne
        have := HN.out
        omega
      obtain ⟨gr, capr, obr, rfl, hgr, hobr, hRowS⟩ : ∃ gr capr obr, v = .slice (some ⟨gr, 0, none⟩) rows.length capr ∧ wr.heap.size ≤ gr ∧ w1.heap[gr]? = some obr ∧ ∀ (w : World), w.heap[gr]? = some obr → ∀ i (h : i < rows.length), w.cell? ⟨gr, i, none⟩ = some (.string rows[i]) := by
        obtain ⟨hlen, ⟨rfl, h0⟩ | ⟨gr, capr, cur, rfl, hbg, hg1, hnc, hcm, hcs, htake⟩⟩ := hown
        · omega
        · refine ⟨gr, capr, _, rfl, hbg, hg1, fun w hw i hi => ?_⟩
          rw [cell_of hw i, ← Array.getElem?_toList]
          have := congrArg (fun x => x[i]?) htake
          simp only [List.getElem?_take] at this
          rw [if_pos (by omega)] at this
          rw [this]
          simp [hi]
      have hS1 := hSj.add hB1 (fun b hb => by have := hXb b hb; omega) hgr hobr
      have hJ1 : J (copiesL m l) w1 := OwnFrom.made hJ hJj hB1
      have HRS := Lib.hid hRowS
      clear hown hobr hRowS hJj hSj hB1 cy' c1' c2'
      have hrowsL : rowsL l = (List.range rows.length).map fun (i : Nat) => (2 + (i : Int), rows.getD i ⟨#[]⟩) := by rw [hrows]; rfl
      have HRL := Lib.hid hrowsL
      clear hrowsL hrows hjl
      obtain ⟨M, hM⟩ : ∃ M, M = rows.length := ⟨_, rfl⟩
      rw [← hM] at hrl
      have HM := Lib.hid hM
      obtain ⟨C, hC⟩ : ∃ C, C = copiesL m l := ⟨_, rfl⟩
      obtain ⟨R, hR⟩ : ∃ R, R = rowsL l := ⟨_, rfl⟩
      have hall : allL m l = C ++ (R ++ ((1, jTop l) :: homeL l)) := by rw [hC, hR]; rfl
      rw [hall] at hY
      rw [← hC] at hJ1
      have HALL := Lib.hid hall
      have HRLEN : Hid (R.length = M) := by show _ = _; rw [hR, HRL.out, hM]; simp
      have HRT : Hid (∀ i, (h : i < rows.length) → R.take (i + 1) = R.take i ++ [((2 : Int) + (i : Int), rows[i])]) := by
        intro i hi
        rw [hR, HRL.out, range_take _ hi]
        simp [hi]
      clear hall hC hR HRL
      gi_wp2
      gi_loopw [30] (fun u wr2' => ∃ i : Nat, u = .int .i64 i ∧ i ≤ M ∧ J (C ++ R.take i) wr2' ∧ Safe d bb (fun b => b = l2 ∨ X b) wr2' [(gr, obr), (W.heap.size, .cells #[.func (.yield l2) #[] #[]] 222 (0, 0)), (B1, o1), (B2, o2), (g, og)]) (fun u _ => M - (intOf u).toNat)
      case atStart => exact ⟨0, rfl, by omega, by simpa using hJ1, hS1⟩
      case round =>
        obtain ⟨i, rfl, hi, hJi, hSi⟩ := hrel
        clear hJ1 hS1
        obtain ⟨cy2, c12, c22⟩ := CELL.out _ (hSi.sub (by simp))
        by_cases hlt : i < M
        · have hlt' : i < rows.length := by have := HM.out; omega
          have hcr := HRS.out _ (hSi.obj (b := gr) (o := obr) (by simp)) i hlt'
          have htk := HRT.out i hlt'
          have hpre : (C ++ R.take i) ++ [((2 : Int) + (i : Int), rows[i])] <+: C ++ (R ++ ((1, jTop l) :: homeL l)) := by
            rw [List.append_assoc, ← htk]
            exact List.prefix_append_right_inj C |>.2 ((List.take_prefix _ _).trans (List.prefix_append _ _))
          obtain ⟨fn, tmps, assign, body, hy, hR⟩ := hY _ _ _ hpre hJi
          unfold encP at hy
          rw [List.append_assoc, ← htk] at hR
          simp only at hy
          clear hpre htk hJi
          generalize rows[i] = x at *
          gi_wp2
          refine hR.mono ?_
          rintro e W3 (⟨rfl, hJ3, hk3⟩ | ⟨rfl, hJx3, _⟩)
          · have hS3 := hSi.kd hk3
            clear hk3 hSi hcr hy hR
            gi_wp2
            go_roundw
            case rel => exact ⟨i + 1, rfl, by omega, hJ3, hS3⟩
            case measure => simp [intOf]; omega
          · gi_wp2
            exact ⟨_, results_none rfl _ _ _, ⟨_, rfl⟩, .inr ⟨_, hJx3⟩⟩
        · obtain rfl : i = M := by omega
          rw [List.take_of_length_le (by have := HRLEN.out; omega)] at hJi
          have HTOP : Hid (∀ w, Safe d bb (fun b => b = l2 ∨ X b) w [(W.heap.size, .cells #[.func (.yield l2) #[] #[]] 222 (0, 0)), (B1, o1), (B2, o2), (g, og)] →
              Calls Tryz.prog 151 #[.slice (some ⟨g, 0, none⟩) j cap] w fun e w' => e = .returned (.string (jTop l)) ∧ Below w.heap.size w w') := by
            intro w hw
            rw [HN.out]
            exact top_any (some ⟨g, 0, none⟩) cap l w (HPI.out w hw) (by have := HN.out; omega) hat (fun q hq => by have := hsz q hq; omega)
          have hSd := hSi.sub (qs := [(W.heap.size, .cells #[.func (.yield l2) #[] #[]] 222 (0, 0)), (B1, o1), (B2, o2), (g, og)]) (by simp)
          have HY2 : Hid (∀ w4, Below wr.heap.size wr w4 → YieldAt Fence.wide (n - 1) Tryz.prog l2 #[.agg #[.int .i64 1, .string (jTop l)]] w4 fun e W' => ∃ b : Bool, e = .returned (.bool b) ∧
              ((b = true ∧ J (C ++ R ++ [(1, jTop l)]) W' ∧ Safe d bb (fun b => b = l2 ∨ X b) W' [(W.heap.size, .cells #[.func (.yield l2) #[] #[]] 222 (0, 0)), (B1, o1), (B2, o2), (g, og)]) ∨ (b = false ∧ Jx (C ++ R ++ [(1, jTop l)]) W'))) := by
            intro w4 hB4
            have hpre : C ++ R ++ [((1 : Int), jTop l)] <+: C ++ (R ++ ((1, jTop l) :: homeL l)) := ⟨homeL l, by simp⟩
            refine (hY _ _ w4 hpre (OwnFrom.made hJ hJi hB4)).mono ?_
            rintro e W' (⟨rfl, h1, h2⟩ | ⟨rfl, h1, _⟩)
            · exact ⟨true, rfl, .inl ⟨rfl, h1, (hSd.kd (KD.below hB4)).kd h2⟩⟩
            · exact ⟨false, rfl, .inr ⟨rfl, h1⟩⟩
          have hSdr : Safe d bb (fun b => b = l2 ∨ X b) wr.drew [(W.heap.size, .cells #[.func (.yield l2) #[] #[]] 222 (0, 0)), (B1, o1), (B2, o2), (g, og)] := hSd.kd (KD.below ((Below.refl _ wr).drew))
          have HSD := Lib.hid hSd
          have HSDR := Lib.hid hSdr
          clear hJi hSi hSd hSdr HRS HRT HRLEN HPI HM hsz hat
          generalize jTop l = tp at *
          gi_wp2
          gi_region_with (first
            | (gi_at_call 151; refine (callsIn_wide.2 (HTOP.out _ HSDR.out)).mono ?_; rintro e w4 ⟨rfl, hB4⟩
               obtain ⟨cy4, c14, c24⟩ := CELL.out w4 (HSDR.out.kd (KD.below hB4))
               obtain ⟨fn4, tmps4, assign4, body4, hy4, hR4⟩ := HY2.out w4 (((Below.refl _ wr).drew).trans hB4))
            | (refine hR4.mono ?_; rintro e W5 ⟨b, rfl, hb⟩))
          all_goals
            clear HY2 HTOP hy4 hR4 HSD HSDR
            rcases hb with ⟨rfl, hJ5, hS5⟩ | ⟨rfl, hJx5⟩
            · obtain ⟨cy5, c15, c25⟩ := CELL.out W5 hS5
              have hsz5 := lt_of (hS5.obj (.head _))
              gi_wp2
              refine (callsIn_wide.2 (home_any _ _ _ _)).mono ?_
              rintro e w6 ⟨rfl, rfl⟩
              have hs6 : (W5.alloc (.cells #[.slice (some ⟨g, 0, none⟩) j cap] 110)).heap.size = W5.heap.size + 1 := by simp
              have hS6 : Safe d bb (fun b => b = l2 ∨ X b) (W5.alloc (.cells #[.slice (some ⟨g, 0, none⟩) j cap] 110)) ((W5.heap.size, .cells #[.slice (some ⟨g, 0, none⟩) j cap] 110) :: [(W.heap.size, .cells #[.func (.yield l2) #[] #[]] 222 (0, 0)), (B1, o1), (B2, o2), (g, og)]) :=
                hS5.add ((Below.refl _ W5).alloc (Nat.le_refl _) _) (fun b hb => by have := hXb b hb; omega) (Nat.le_refl _) (heap_alloc_new' W5 _)
              have hJ6 : J (C ++ R ++ [(1, tp)]) (W5.alloc (.cells #[.slice (some ⟨g, 0, none⟩) j cap] 110)) := OwnFrom.made hJ hJ5 ((Below.refl _ W5).alloc (Nat.le_refl _) _)
              generalize hW6 : W5.alloc (.cells #[.slice (some ⟨g, 0, none⟩) j cap] 110) = W6 at *
              clear hJ5 hS5 cy5 c15 c25 hW6
              gi_wp2
              refine range_pages (w0 := W6) (gf := 153) (lb := #[.pointer (some ⟨W5.heap.size, 0, none⟩)]) rfl (enters_of Tryz.func153 (by kernel_rfl) rfl)
                (home1_yields (X := fun b => b = l2 ∨ X b) (l := l) (g := g) (cap := cap) (oB := .cells #[.slice (some ⟨g, 0, none⟩) j cap] 110) (og := og) (by rw [HN.out]) hog (by have := HN.out; omega) (hS6.sub (by simp)))
                (Below.refl _ _) (fun h k => h.trans k) (fun l W r o' h => KD.loop o' h (.inl rfl)) (fun l W o => KD.alloc W o)
                (fun pre W' => J ((C ++ R ++ [(1, tp)]) ++ pre) W' ∧ Safe d bb (fun b => b = l2 ∨ X b) W' [(W.heap.size, .cells #[.func (.yield l2) #[] #[]] 222 (0, 0))])
                (fun _ W' => ∃ pre, Jx pre W')
                (OwnFrom.and (fun s A B row hs hg hr => hJ _ A B row hs hg (fun r e => ⟨by have := (hr r e).1; omega, (hr r e).2⟩)) (Safe.own (by simp [Obj.isCells])))
                (fun s A B row hs hg hr => by obtain ⟨pre, hs⟩ := hs; exact ⟨pre, hJx _ A B row hs hg (fun r e => ⟨by have := (hr r e).1; omega, (hr r e).2⟩)⟩)
                ⟨by simpa using hJ6, hS6.sub (by simp)⟩ 8 ?assign ?body ?done ?stop
              case assign =>
                intro l x W' K hK
                unfold encP boxP at hK
                unfold encP
                gi_wp2
                exact hK
              case body =>
                rintro l3 pre x B W' hl3 hr3 hpre ⟨hJw, hSw⟩ hbox hBB
                have cyw := cell_of (hSw.obj (.head _)) 0
                simp at cyw
                have hb0 := cell_of hbox 0
                have hb1 := cell_of hbox 1
                simp at hb0 hb1
                have hpre2 : (C ++ R ++ [(1, tp)] ++ pre) ++ [x] <+: C ++ (R ++ ((1, tp) :: homeL l)) := by
                  obtain ⟨t, ht⟩ := hpre
                  exact ⟨t, by rw [← ht]; simp⟩
                obtain ⟨fn, tmps, assign, body, hy, hR⟩ := hY _ _ _ hpre2 hJw
                have hR3 := round_any (n' := n - 1 - 1 - 1) (l' := l3) hR
                unfold encP at hy ⊢
                clear hR hpre2 hpre hbox
                gi_wp2
                refine hR3.mono ?_
                rintro e W3 (⟨rfl, hJ3, hk3⟩ | ⟨rfl, hJx3, hk3⟩)
                · gi_wp2
                  exact ⟨hk3.keepsFrom hSw (fun b hb => by have := hXb b hb; omega), hk3.mono (fun b hb => .inr hb), by rw [← List.append_assoc]; exact hJ3, hSw.kd hk3⟩
                · gi_wp2
                  exact ⟨hk3.keepsFrom hSw (fun b hb => by have := hXb b hb; omega), hk3.mono (fun b hb => .inr hb), _, hJx3⟩
              case done =>
                rintro D W' hD ⟨hJw, hSw⟩ hK
                have hJD := OwnFrom.putObj hJ (.deferred none) hJw (by omega) hK rfl
                have hfull : C ++ R ++ [(1, tp)] ++ homeL l = C ++ (R ++ ((1, tp) :: homeL l)) := by simp
                rw [hfull, ← HALL.out] at hJD
                gi_wp2
                refine ⟨by simp, .inl ⟨_, _, rfl, run_takeDeferred hK, ?_⟩⟩
                exact ⟨_, results_none rfl _ _ _, ⟨_, rfl⟩, .inl hJD⟩
              case stop =>
                rintro D pre W' hD ⟨pre', hJx'⟩ hK
                have hJD := OwnFrom.putObj hJx (.deferred none) hJx' (by omega) hK rfl
                gi_wp2
                refine ⟨by simp, .inl ⟨_, _, rfl, run_takeDeferred hK, ?_⟩⟩
                exact ⟨_, results_none rfl _ _ _, ⟨_, rfl⟩, .inr ⟨_, hJD⟩⟩
            · gi_wp2
              exact ⟨_, results_none rfl _ _ _, ⟨_, rfl⟩, .inr ⟨_, hJx5⟩⟩
end Go.Proofs.YtmgcaohpbaiiaaaGreatDoor
