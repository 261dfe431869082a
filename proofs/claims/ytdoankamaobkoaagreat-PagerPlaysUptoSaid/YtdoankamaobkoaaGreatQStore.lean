/- The reference's pager: Store. -/
import Derived.Test.YtdoankamaobkoaaGreatQLoad
set_option linter.unusedSimpArgs false
set_option linter.unusedVariables false
namespace Go.Proofs.YtdoankamaobkoaaGreat
open Go.RowKit Go.Maps Go.Shelf

/-- what is left to do of a page's storing -/
def insRest (b : Bool) (i : Int) (s : ByteArray) (l : Pgs) : Pgs := if b then l else ins i s l
theorem insRest_same {i : Int} {s : ByteArray} {p : Int × ByteArray} {l : Pgs} (h : Srt (p :: l)) (e : p.1 = i) : insRest false i s (p :: l) = insRest false i s l := by
  obtain ⟨h1, h2⟩ := List.pairwise_cons.1 h
  have e1 : ins i s (p :: l) = (i, s) :: l := by unfold ins; rw [if_neg (by omega), if_pos e]
  have e2 : ins i s l = (i, s) :: l := by
    cases l with
    | nil => rfl
    | cons q l => unfold ins; rw [if_pos (by have := h1 q List.mem_cons_self; omega)]
  show ins i s (p :: l) = ins i s l
  rw [e1, e2]
theorem insRest_less {i : Int} {s : ByteArray} {p : Int × ByteArray} {l : Pgs} (e : p.1 < i) : insRest false i s (p :: l) = p :: insRest false i s l := by
  show ins i s (p :: l) = p :: ins i s l
  rw [ins, if_neg (by omega), if_neg (by omega)]
theorem insRest_more {i : Int} {s : ByteArray} {p : Int × ByteArray} {l : Pgs} (e : i < p.1) : insRest false i s (p :: l) = (i, s) :: p :: insRest true i s l := by
  show ins i s (p :: l) = (i, s) :: p :: l
  rw [ins, if_pos e]
section
variable {w : World} {r q : Nat} {S : Pgr} {L : List (Int × Pg)} {G : Nat → Prop}
/-- what the loop reads -/
def ChgSeen (w1 : World) (r N : Nat) (l : Pgs) : Prop := ∀ W, Below w1.heap.size w1 W → ∃ ac cc, W.cell? ⟨r, 3, none⟩ = some (.slice ac N cc) ∧ W.frozen? ⟨r, 3, none⟩ = false ∧
  ∀ k (hk : k < l.length), ∃ g, ac = some ⟨g, 0, none⟩ ∧ W.cell? ⟨g, k * 2, none⟩ = some (.int .i64 l[k].1) ∧ W.cell? ⟨g, k * 2 + 1, none⟩ = some (.string l[k].2)
theorem chgSeen {w1 : World} (h : RAt w1 r q G S L) : ChgSeen w1 r S.changed.length S.changed := fun W hB => by
  obtain ⟨lv, cv, bv, lgv, hM, _⟩ := h
  have hM2 := hM.keep (w' := W) fun b hb => hB.block b (hM.fp_lt hb)
  obtain ⟨ac, cc, rfl⟩ := ownsRow_slice hM.chg
  have hs := hM2.sees
  refine ⟨ac, cc, hs.c3, hs.f3, fun k hk => ?_⟩
  obtain ⟨g, cap, he, h1, h2⟩ := hM2.chgAt hk
  simp at he
  exact ⟨g, he.1, h1, h2⟩
set_option maxRecDepth 100000 in
set_option maxHeartbeats 8000000 in
theorem qstore_any (h : RAt w r q G S L) (ho : Ord S L) (hok : S.Ok) (i : Int) (s : ByteArray) (hs : s.size ≤ 140737488355328) :
    Calls Tryz.prog 46 #[.pointer (some ⟨r, 0, none⟩), .int .i64 i, .string s] w fun e w' => e = .returned (.int .i64 (S.store i s).1) ∧ ∃ L', Ord (S.store i s).2 L' ∧ RStp w w' r q G (S.store i s).2 L' := by
  have hl := ho.len_bd hok
  have hcl := hok.chg_len
  have hn : S.disk.n = (S.disk.blocks.length : Int) := rfl
  have hb64 := hok.blocks
  have hpg := page10_any S.disk.n i w (by omega) (by omega)
  rw [hn] at hpg
  have hat := at_any h i (by omega)
  have HEND0 : Hid (RStp w w r q G S L) := RStp.refl h
  have HST := Lib.hid h
  obtain ⟨lv, cv, bv, lgv, hM, hG⟩ := h
  have hse := hM.sees
  obtain ⟨bao, bco, rfl⟩ := ownsRow_slice hM.blk
  obtain ⟨c0, c1, c2, c3, c4, f2, f3, f4, q0⟩ := hse
  by_cases hp : isPage S.disk.n i = true
  · have hm : S.may i = 0 := page_may.1 hp
    rw [hn] at hp
    rw [hp] at hpg
    by_cases hz : s.size = 256
    · cases hy : atIx L i with
      | some j =>
        obtain ⟨hj, hji, hgh⟩ := atIx_some ho hok hy
        rw [hy, show ixI (some j) = (j : Int) from rfl] at hat
        obtain ⟨lg, lc, rfl, -, t1, -⟩ := hM.listAt hj
        have hpins : 0 ≤ L[j].2.pins := (hok.held _ (get_mem hgh)).2.1
        by_cases hpp : 0 < L[j].2.pins
        · have e : S.store i s = (10, S) := by unfold Pgr.store; rw [if_neg (by omega), if_neg (by omega), hgh]; simp only; rw [if_pos hpp]
          rw [e]
          have HO := Lib.hid ho
          clear hM hG HST e hgh ho hok hm hy hji
          generalize L[j].2.pins = pn at *
          generalize S.disk.blocks.length = M at *
          generalize L.length = K at *
          go_enter Tryz.func46, Tryz.ntmps46
          go_wp2_with (first
            | (go_at_call 70; refine hpg.mono ?_; rintro e w' ⟨rfl, rfl⟩)
            | (go_at_call 72; refine hat.mono ?_; rintro e w' ⟨rfl, rfl⟩))
          go_ret
          exact ⟨rfl, _, HO.out, HEND0.out⟩
        · have hp0 : L[j].2.pins = 0 := by omega
          have e : S.store i s = (0, { S with held := del i S.held, changed := ins i s S.changed }) := by unfold Pgr.store; rw [if_neg (by omega), if_neg (by omega), hgh]; simp only; rw [if_neg hpp]
          rw [e]
          rw [hp0] at t1
          have hou := out_any HST.out j hj (by omega)
          have HO' : Hid (Ord { S with held := del i S.held } (L.eraseIdx j)) := ho.gone hok hj hji hgh
          have HW : Hid (∀ w1, RStp w w1 r q G S (L.eraseIdx j) → ChgSeen w1 r S.changed.length S.changed ∧ ∀ wr v m ou, List.length ou = m → ins i s S.changed = ou → wr.ownsRow w1.heap.size 78 2 v m (pageCells ou) → Below w1.heap.size w1 wr →
              ∃ L', Ord { S with held := del i S.held, changed := ins i s S.changed } L' ∧ RStp w (wr.setCell ⟨r, 3, none⟩ v) r q G { S with held := del i S.held, changed := ins i s S.changed } L') := fun w1 hst => by
            refine ⟨chgSeen hst.at_, fun wr v m ou e1 e2 ho1 hB => ⟨L.eraseIdx j, ⟨HO'.out.perm, HO'.out.srt⟩, ?_⟩⟩
            subst e1
            rw [e2]
            exact (hst.trans (hst.at_.rechg hB ho1)).as rfl rfl rfl rfl
          have HSR := Lib.hid hok.srtc
          have HX0 : Hid (ins i s S.changed = [] ++ insRest false i s (S.changed.drop 0)) := rfl
          obtain ⟨N, HN⟩ : ∃ N, Hid (S.changed.length = N) := ⟨_, Lib.hid rfl⟩
          rw [HN.out] at HW hcl
          clear hM hG HST e hgh ho hok hm hy hji c3 c4 f3 f4 HO' hpp
          generalize ins i s S.changed = XL at *
          generalize ({ S with held := del i S.held, changed := XL } : Pgr) = S2 at *
          generalize S.changed = l at *
          generalize L[j].2.pins = pn at *
          generalize S.disk.blocks.length = M at *
          generalize L.eraseIdx j = L2 at *
          generalize L.length = K at *
          go_enter Tryz.func46, Tryz.ntmps46
          go_upto_region 9 with (first
            | (go_at_call 70; refine hpg.mono ?_; rintro e w' ⟨rfl, rfl⟩)
            | (go_at_call 72; refine hat.mono ?_; rintro e w' ⟨rfl, rfl⟩))
          go_wp2_with fail
          refine hou.mono ?_
          rintro e w1 ⟨rfl, hst⟩
          obtain ⟨hcs, hend⟩ := HW.out w1 hst
          have HCS := Lib.hid hcs
          have HEND := Lib.hid hend
          obtain ⟨ac, cc, d3, -, -⟩ := hcs w1 (Below.refl _ _)
          clear hst hcs hend HW hou c0 c1 c2 f2 q0 t1 hat hpg
          go_wp2
          go_loopw [8, 9, 51] (fun vo vb vi wr => ∃ (k m : Nat) (ao : Option Addr) (co : Nat) (ou : Pgs) (b : Bool), vo = .slice ao m co ∧ vb = .bool b ∧ vi = .int .i64 k ∧ k ≤ N ∧ m ≤ k + 1 ∧ Hid (b = false → m ≤ k) ∧ Hid (ou.length = m) ∧ Hid (XL = ou ++ insRest b i s (l.drop k)) ∧ Hid (b = true → ∀ q ∈ l.drop k, i < q.1) ∧ Hid (wr.ownsRow w1.heap.size 78 2 (.slice ao m co) m (pageCells ou)) ∧ Below w1.heap.size w1 wr) (fun _ _ vi _ => N - (intOf vi).toNat)
          case atStart => exact ⟨0, 0, none, 0, [], false, rfl, rfl, rfl, by omega, by omega, fun _ => Nat.le_refl _, rfl, HX0, (fun h => by cases h), World.ownsRow_nil _ _ _ _, Below.refl _ _⟩
          case round =>
            obtain ⟨k, m, ao, co, ou, b, rfl, rfl, rfl, hk, hm, HM0, HOL, HXX, HBT, HO, hB⟩ := hrel
            by_cases hlt : k < N
            · have hlt' : k < l.length := by rw [HN.out]; exact hlt
              obtain ⟨ac, cc, c3, f3, hcells⟩ := HCS.out wr hB
              obtain ⟨g, rfl, t0, t1⟩ := hcells k hlt'
              have hdr : l.drop k = l[k] :: l.drop (k + 1) := List.drop_eq_getElem_cons hlt'
              have hsd : Srt (l[k] :: l.drop (k + 1)) := by rw [← hdr]; exact HSR.out.sublist (List.drop_sublist ..)
              have hall := (List.pairwise_cons.1 hsd).1
              rw [hdr] at HXX HBT
              clear hcells
              by_cases hke : l[k].1 = i
              · have hbf : b = false := by
                  cases b with
                  | false => rfl
                  | true => have := HBT.out rfl l[k] List.mem_cons_self; omega
                subst hbf
                have HX2 : Hid (XL = ou ++ insRest false i s (l.drop (k + 1))) := by show _ = _; rw [HXX.out, insRest_same hsd hke]
                have hbe : (l[k].1 == i) = true := by simpa using hke
                clear hdr hsd hall HXX HBT HCS hke
                generalize l[k].1 = kk at *
                go_wp2
                go_roundw
                case rel => exact ⟨k + 1, m, ao, co, ou, false, rfl, rfl, by go_num, by omega, by omega, fun h => by have := HM0.out h; omega, HOL, HX2, (fun h => by cases h), HO, hB⟩
                case measure => simp [intOf]; omega
              · have hbe : (l[k].1 == i) = false := by simpa using hke
                by_cases hins : b = false ∧ i < l[k].1
                · obtain ⟨rfl, hgt⟩ := hins
                  have hmk := HM0.out rfl
                  have HX2 : Hid (XL = (ou ++ [(i, s)] ++ [(l[k].1, l[k].2)]) ++ insRest true i s (l.drop (k + 1))) := by show _ = _; rw [HXX.out, insRest_more hgt]; simp
                  have HBT2 : Hid (true = true → ∀ q ∈ l.drop (k + 1), i < q.1) := fun _ q hq => by have := hall q hq; omega
                  obtain ⟨ao3, co3, w3, q1, q2, q3, -⟩ := push_page HO.out (Below.refl wr.heap.size wr) hB.size (by omega) i s
                  have hB3 := hB.trans q3
                  obtain ⟨ac2, cc2, d3, g3, hcells2⟩ := HCS.out w3 hB3
                  obtain ⟨g2, rfl, u0, u1⟩ := hcells2 k hlt'
                  obtain ⟨ao4, co4, w4, r1, r2, r3, -⟩ := push_page q2 (Below.refl w3.heap.size w3) hB3.size (by omega) l[k].1 l[k].2
                  have Q1 := Lib.hid q1
                  have R1 := Lib.hid r1
                  have R2 := Lib.hid r2
                  have R3 := Lib.hid (hB3.trans r3)
                  have HL2 : Hid ((ou ++ [(i, s)] ++ [(l[k].1, l[k].2)]).length = m + 1 + 1) := by show _ = _; simp [HOL.out]
                  clear hdr hsd hall HXX HBT HCS hke q1 q2 q3 r1 r2 r3 hcells2 HOL HO
                  generalize l[k].1 = kk at *
                  generalize l[k].2 = tt at *
                  go_upto_region 19 with (at_builtin; refine wpList_append_run Q1.out rfl rfl rfl rfl rfl ?_)
                  go_wp2_with (at_builtin; refine wpList_append_run R1.out rfl rfl rfl rfl rfl ?_)
                  go_roundw
                  case rel => exact ⟨k + 1, m + 1 + 1, ao4, co4, _, true, rfl, rfl, by go_num, by omega, by omega, (fun h => by cases h), HL2, HX2, HBT2, R2, R3.out⟩
                  case measure => simp [intOf]; omega
                · have hcase : (b = true ∧ i < l[k].1) ∨ (b = false ∧ l[k].1 < i) := by
                    cases b with
                    | true => exact .inl ⟨rfl, HBT.out rfl l[k] List.mem_cons_self⟩
                    | false => exact .inr ⟨rfl, by have : ¬ i < l[k].1 := fun h => hins ⟨rfl, h⟩; omega⟩
                  have HX2 : Hid (XL = (ou ++ [(l[k].1, l[k].2)]) ++ insRest b i s (l.drop (k + 1))) := by
                    show _ = _
                    rcases hcase with ⟨rfl, h⟩ | ⟨rfl, h⟩
                    · rw [HXX.out, List.append_assoc]; rfl
                    · rw [HXX.out, insRest_less h]; simp
                  have HBT2 : Hid (b = true → ∀ q ∈ l.drop (k + 1), i < q.1) := fun h q hq => HBT.out h q (List.mem_cons_of_mem _ hq)
                  obtain ⟨ao4, co4, w4, r1, r2, r3, -⟩ := push_page HO.out (Below.refl wr.heap.size wr) hB.size (by omega) l[k].1 l[k].2
                  have R1 := Lib.hid r1
                  have R2 := Lib.hid r2
                  have R3 := Lib.hid (hB.trans r3)
                  have HL2 : Hid ((ou ++ [(l[k].1, l[k].2)]).length = m + 1) := by show _ = _; simp [HOL.out]
                  clear hdr hsd hall HXX HBT HCS hke r1 r2 r3 HOL HO hins
                  generalize l[k].1 = kk at *
                  generalize l[k].2 = tt at *
                  rcases hcase with ⟨rfl, hc⟩ | ⟨rfl, hc⟩
                  · go_wp2_with (at_builtin; refine wpList_append_run R1.out rfl rfl rfl rfl rfl ?_)
                    go_roundw
                    case rel => exact ⟨k + 1, m + 1, ao4, co4, _, true, rfl, rfl, by go_num, by omega, by omega, (fun h => by cases h), HL2, HX2, HBT2, R2, R3.out⟩
                    case measure => simp [intOf]; omega
                  · go_wp2_with (at_builtin; refine wpList_append_run R1.out rfl rfl rfl rfl rfl ?_)
                    go_roundw
                    case rel => exact ⟨k + 1, m + 1, ao4, co4, _, false, rfl, rfl, by go_num, by omega, by omega, (fun h => by have := HM0.out h; omega), HL2, HX2, HBT2, R2, R3.out⟩
                    case measure => simp [intOf]; omega
            · obtain rfl : k = N := by omega
              have hdr : l.drop k = [] := List.drop_of_length_le (by rw [HN.out]; exact Nat.le_refl _)
              rw [hdr] at HXX
              obtain ⟨ac, cc, c3, f3, -⟩ := HCS.out wr hB
              cases b with
              | true =>
                have HX2 : Hid (XL = ou) := by show _ = _; rw [HXX.out]; simp [insRest]
                have HEN := Lib.hid (HEND.out wr (.slice ao m co) m ou HOL.out HX2.out HO.out hB)
                clear hdr HXX HBT HCS HO HOL HEND
                go_wp2
                go_ret
                exact ⟨rfl, HEN.out⟩
              | false =>
                obtain ⟨ao4, co4, w4, r1, r2, r3, -⟩ := push_page HO.out (Below.refl wr.heap.size wr) hB.size (by omega) i s
                have HX2 : Hid (XL = ou ++ [(i, s)]) := by show _ = _; rw [HXX.out]; rfl
                have hB4 := hB.trans r3
                obtain ⟨ac4, cc4, d3, g3, -⟩ := HCS.out w4 hB4
                have HEN := Lib.hid (HEND.out w4 (.slice ao4 (m + 1) co4) (m + 1) (ou ++ [(i, s)]) (by simp [HOL.out]) HX2.out r2 hB4)
                have R1 := Lib.hid r1
                clear hdr HXX HBT HCS HO HOL HEND r1 r2 r3
                go_wp2_with (at_builtin; refine wpList_append_run R1.out rfl rfl rfl rfl rfl ?_)
                go_ret
                exact ⟨rfl, HEN.out⟩
      | none =>
        have hgh := atIx_none ho hy
        rw [hy, show ixI none = -1 from rfl] at hat
        have e : S.store i s = (0, { S with held := del i S.held, changed := ins i s S.changed }) := by unfold Pgr.store; rw [if_neg (by omega), if_neg (by omega), hgh]
        rw [e]
        have HO' : Hid (Ord { S with held := del i S.held } L) := ho.gone' hgh
        have HEND : Hid (∀ wr v m ou, List.length ou = m → ins i s S.changed = ou → wr.ownsRow w.heap.size 78 2 v m (pageCells ou) → Below w.heap.size w wr →
            ∃ L', Ord { S with held := del i S.held, changed := ins i s S.changed } L' ∧ RStp w (wr.setCell ⟨r, 3, none⟩ v) r q G { S with held := del i S.held, changed := ins i s S.changed } L') := fun wr v m ou e1 e2 ho1 hB => by
          refine ⟨L, ⟨HO'.out.perm, HO'.out.srt⟩, ?_⟩
          subst e1
          rw [e2]
          exact (HST.out.rechg hB ho1).as rfl rfl rfl rfl
        have HCS := Lib.hid (chgSeen HST.out)
        have HSR := Lib.hid hok.srtc
        have HX0 : Hid (ins i s S.changed = [] ++ insRest false i s (S.changed.drop 0)) := rfl
        obtain ⟨N, HN⟩ : ∃ N, Hid (S.changed.length = N) := ⟨_, Lib.hid rfl⟩
        rw [HN.out] at HCS hcl
        clear hM hG HST e hgh ho hok hm hy c4 f3 f4 HO' c3
        obtain ⟨ac, cc, d3, -, -⟩ := HCS.out w (Below.refl _ _)
        generalize ins i s S.changed = XL at *
        generalize ({ S with held := del i S.held, changed := XL } : Pgr) = S2 at *
        generalize S.changed = l at *
        generalize S.disk.blocks.length = M at *
        obtain ⟨w1, rfl⟩ : ∃ w1, w1 = w := ⟨_, rfl⟩
        go_enter Tryz.func46, Tryz.ntmps46
        go_wp2_with (first
          | (go_at_call 70; refine hpg.mono ?_; rintro e w' ⟨rfl, rfl⟩)
          | (go_at_call 72; refine hat.mono ?_; rintro e w' ⟨rfl, rfl⟩))
        go_loopw [8, 9, 51] (fun vo vb vi wr => ∃ (k m : Nat) (ao : Option Addr) (co : Nat) (ou : Pgs) (b : Bool), vo = .slice ao m co ∧ vb = .bool b ∧ vi = .int .i64 k ∧ k ≤ N ∧ m ≤ k + 1 ∧ Hid (b = false → m ≤ k) ∧ Hid (ou.length = m) ∧ Hid (XL = ou ++ insRest b i s (l.drop k)) ∧ Hid (b = true → ∀ q ∈ l.drop k, i < q.1) ∧ Hid (wr.ownsRow w1.heap.size 78 2 (.slice ao m co) m (pageCells ou)) ∧ Below w1.heap.size w1 wr) (fun _ _ vi _ => N - (intOf vi).toNat)
        case atStart => exact ⟨0, 0, none, 0, [], false, rfl, rfl, rfl, by omega, by omega, fun _ => Nat.le_refl _, rfl, HX0, (fun h => by cases h), World.ownsRow_nil _ _ _ _, Below.refl _ _⟩
        case round =>
          obtain ⟨k, m, ao, co, ou, b, rfl, rfl, rfl, hk, hm, HM0, HOL, HXX, HBT, HO, hB⟩ := hrel
          by_cases hlt : k < N
          · have hlt' : k < l.length := by rw [HN.out]; exact hlt
            obtain ⟨ac, cc, c3, f3, hcells⟩ := HCS.out wr hB
            obtain ⟨g, rfl, t0, t1⟩ := hcells k hlt'
            have hdr : l.drop k = l[k] :: l.drop (k + 1) := List.drop_eq_getElem_cons hlt'
            have hsd : Srt (l[k] :: l.drop (k + 1)) := by rw [← hdr]; exact HSR.out.sublist (List.drop_sublist ..)
            have hall := (List.pairwise_cons.1 hsd).1
            rw [hdr] at HXX HBT
            clear hcells
            by_cases hke : l[k].1 = i
            · have hbf : b = false := by
                cases b with
                | false => rfl
                | true => have := HBT.out rfl l[k] List.mem_cons_self; omega
              subst hbf
              have HX2 : Hid (XL = ou ++ insRest false i s (l.drop (k + 1))) := by show _ = _; rw [HXX.out, insRest_same hsd hke]
              have hbe : (l[k].1 == i) = true := by simpa using hke
              clear hdr hsd hall HXX HBT HCS hke
              generalize l[k].1 = kk at *
              go_wp2
              go_roundw
              case rel => exact ⟨k + 1, m, ao, co, ou, false, rfl, rfl, by go_num, by omega, by omega, fun h => by have := HM0.out h; omega, HOL, HX2, (fun h => by cases h), HO, hB⟩
              case measure => simp [intOf]; omega
            · have hbe : (l[k].1 == i) = false := by simpa using hke
              by_cases hins : b = false ∧ i < l[k].1
              · obtain ⟨rfl, hgt⟩ := hins
                have hmk := HM0.out rfl
                have HX2 : Hid (XL = (ou ++ [(i, s)] ++ [(l[k].1, l[k].2)]) ++ insRest true i s (l.drop (k + 1))) := by show _ = _; rw [HXX.out, insRest_more hgt]; simp
                have HBT2 : Hid (true = true → ∀ q ∈ l.drop (k + 1), i < q.1) := fun _ q hq => by have := hall q hq; omega
                obtain ⟨ao3, co3, w3, q1, q2, q3, -⟩ := push_page HO.out (Below.refl wr.heap.size wr) hB.size (by omega) i s
                have hB3 := hB.trans q3
                obtain ⟨ac2, cc2, d3, g3, hcells2⟩ := HCS.out w3 hB3
                obtain ⟨g2, rfl, u0, u1⟩ := hcells2 k hlt'
                obtain ⟨ao4, co4, w4, r1, r2, r3, -⟩ := push_page q2 (Below.refl w3.heap.size w3) hB3.size (by omega) l[k].1 l[k].2
                have Q1 := Lib.hid q1
                have R1 := Lib.hid r1
                have R2 := Lib.hid r2
                have R3 := Lib.hid (hB3.trans r3)
                have HL2 : Hid ((ou ++ [(i, s)] ++ [(l[k].1, l[k].2)]).length = m + 1 + 1) := by show _ = _; simp [HOL.out]
                clear hdr hsd hall HXX HBT HCS hke q1 q2 q3 r1 r2 r3 hcells2 HOL HO
                generalize l[k].1 = kk at *
                generalize l[k].2 = tt at *
                go_upto_region 19 with (at_builtin; refine wpList_append_run Q1.out rfl rfl rfl rfl rfl ?_)
                go_wp2_with (at_builtin; refine wpList_append_run R1.out rfl rfl rfl rfl rfl ?_)
                go_roundw
                case rel => exact ⟨k + 1, m + 1 + 1, ao4, co4, _, true, rfl, rfl, by go_num, by omega, by omega, (fun h => by cases h), HL2, HX2, HBT2, R2, R3.out⟩
                case measure => simp [intOf]; omega
              · have hcase : (b = true ∧ i < l[k].1) ∨ (b = false ∧ l[k].1 < i) := by
                  cases b with
                  | true => exact .inl ⟨rfl, HBT.out rfl l[k] List.mem_cons_self⟩
                  | false => exact .inr ⟨rfl, by have : ¬ i < l[k].1 := fun h => hins ⟨rfl, h⟩; omega⟩
                have HX2 : Hid (XL = (ou ++ [(l[k].1, l[k].2)]) ++ insRest b i s (l.drop (k + 1))) := by
                  show _ = _
                  rcases hcase with ⟨rfl, h⟩ | ⟨rfl, h⟩
                  · rw [HXX.out, List.append_assoc]; rfl
                  · rw [HXX.out, insRest_less h]; simp
                have HBT2 : Hid (b = true → ∀ q ∈ l.drop (k + 1), i < q.1) := fun h q hq => HBT.out h q (List.mem_cons_of_mem _ hq)
                obtain ⟨ao4, co4, w4, r1, r2, r3, -⟩ := push_page HO.out (Below.refl wr.heap.size wr) hB.size (by omega) l[k].1 l[k].2
                have R1 := Lib.hid r1
                have R2 := Lib.hid r2
                have R3 := Lib.hid (hB.trans r3)
                have HL2 : Hid ((ou ++ [(l[k].1, l[k].2)]).length = m + 1) := by show _ = _; simp [HOL.out]
                clear hdr hsd hall HXX HBT HCS hke r1 r2 r3 HOL HO hins
                generalize l[k].1 = kk at *
                generalize l[k].2 = tt at *
                rcases hcase with ⟨rfl, hc⟩ | ⟨rfl, hc⟩
                · go_wp2_with (at_builtin; refine wpList_append_run R1.out rfl rfl rfl rfl rfl ?_)
                  go_roundw
                  case rel => exact ⟨k + 1, m + 1, ao4, co4, _, true, rfl, rfl, by go_num, by omega, by omega, (fun h => by cases h), HL2, HX2, HBT2, R2, R3.out⟩
                  case measure => simp [intOf]; omega
                · go_wp2_with (at_builtin; refine wpList_append_run R1.out rfl rfl rfl rfl rfl ?_)
                  go_roundw
                  case rel => exact ⟨k + 1, m + 1, ao4, co4, _, false, rfl, rfl, by go_num, by omega, by omega, (fun h => by have := HM0.out h; omega), HL2, HX2, HBT2, R2, R3.out⟩
                  case measure => simp [intOf]; omega
          · obtain rfl : k = N := by omega
            have hdr : l.drop k = [] := List.drop_of_length_le (by rw [HN.out]; exact Nat.le_refl _)
            rw [hdr] at HXX
            obtain ⟨ac, cc, c3, f3, -⟩ := HCS.out wr hB
            cases b with
            | true =>
              have HX2 : Hid (XL = ou) := by show _ = _; rw [HXX.out]; simp [insRest]
              have HEN := Lib.hid (HEND.out wr (.slice ao m co) m ou HOL.out HX2.out HO.out hB)
              clear hdr HXX HBT HCS HO HOL HEND
              go_wp2
              go_ret
              exact ⟨rfl, HEN.out⟩
            | false =>
              obtain ⟨ao4, co4, w4, r1, r2, r3, -⟩ := push_page HO.out (Below.refl wr.heap.size wr) hB.size (by omega) i s
              have HX2 : Hid (XL = ou ++ [(i, s)]) := by show _ = _; rw [HXX.out]; rfl
              have hB4 := hB.trans r3
              obtain ⟨ac4, cc4, d3, g3, -⟩ := HCS.out w4 hB4
              have HEN := Lib.hid (HEND.out w4 (.slice ao4 (m + 1) co4) (m + 1) (ou ++ [(i, s)]) (by simp [HOL.out]) HX2.out r2 hB4)
              have R1 := Lib.hid r1
              clear hdr HXX HBT HCS HO HOL HEND r1 r2 r3
              go_wp2_with (at_builtin; refine wpList_append_run R1.out rfl rfl rfl rfl rfl ?_)
              go_ret
              exact ⟨rfl, HEN.out⟩
    · have e : S.store i s = (3, S) := by unfold Pgr.store; rw [if_neg (by omega), if_pos hz]
      rw [e]
      have hb : ((s.size : Int) != 256) = true := by simp; omega
      have HO := Lib.hid ho
      clear hM hG HST e ho hok hm hat hz
      generalize S.disk.blocks.length = M at *
      go_enter Tryz.func46, Tryz.ntmps46
      go_wp2_with (first
        | (go_at_call 70; refine hpg.mono ?_; rintro e w' ⟨rfl, rfl⟩))
      go_ret
      exact ⟨rfl, L, HO.out, HEND0.out⟩
  · have hm : S.may i ≠ 0 := fun e => hp (page_may.2 e)
    have e : S.store i s = (1, S) := by
      unfold Pgr.store; rw [if_pos hm]
      unfold Pgr.may; rw [if_neg hp]
    rw [e]
    rw [hn] at hp
    rw [show isPage (S.disk.blocks.length : Int) i = false by simpa using hp] at hpg
    have HO := Lib.hid ho
    generalize S.disk.blocks.length = M at *
    clear hat hM hG HST e ho hok hm hp
    go_enter Tryz.func46, Tryz.ntmps46
    go_wp2_with (first
      | (go_at_call 70; refine hpg.mono ?_; rintro e w' ⟨rfl, rfl⟩))
    go_ret
    exact ⟨rfl, L, HO.out, HEND0.out⟩
end
end Go.Proofs.YtdoankamaobkoaaGreat
