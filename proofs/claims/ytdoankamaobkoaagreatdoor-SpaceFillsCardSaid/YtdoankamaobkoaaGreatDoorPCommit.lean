/- The pager's Commit. -/
import Derived.Test.YtdoankamaobkoaaGreatDoorCPlain
set_option linter.unusedSimpArgs false
set_option linter.unusedVariables false
namespace Go.Proofs.YtdoankamaobkoaaGreatDoor
open Go.RowKit Go.Maps Go.Shelf

theorem pageCells_get : ∀ (l : Pgs) (i : Nat) (h : i < l.length), (pageCells l)[i * 2]? = some (.int .i64 l[i].1) ∧ (pageCells l)[i * 2 + 1]? = some (.string l[i].2)
  | p :: r, 0, _ => by simp [pageCells]
  | p :: r, i + 1, h => by
    have ih := pageCells_get r i (by simpa using h)
    have e : pageCells (p :: r) = .int .i64 p.1 :: .string p.2 :: pageCells r := by simp [pageCells]
    rw [e, show (i + 1) * 2 = i * 2 + 1 + 1 by omega, show i * 2 + 1 + 1 + 1 = (i * 2 + 1) + 1 + 1 by omega]
    simpa using ih
theorem rowP_of {w : World} {base g n cap : Nat} {l : Pgs} (hn : n = l.length) (h : w.ownsRow base 112 2 (.slice (some ⟨g, 0, none⟩) n cap) n (pageCells l)) : ∃ og, w.heap[g]? = some og ∧ RowP og l := by
  obtain ⟨hlen, ⟨h0, _⟩ | ⟨g', cap', cur, h1, hb, hg, hnc, hcm, hcs, htake⟩⟩ := h
  · simp at h0
  · simp only [Value.slice.injEq, Option.some.injEq, Addr.mk.injEq, and_true, true_and] at h1
    obtain ⟨rfl, rfl⟩ := h1
    refine ⟨_, hg, cur, _, _, rfl, fun i hi => ?_⟩
    obtain ⟨h1, h2⟩ := pageCells_get l i hi
    rw [← htake, List.getElem?_take] at h1 h2
    rw [if_pos (by omega)] at h1 h2
    exact ⟨by simpa using h1, by simpa using h2⟩

/-- the disk has turned -/
theorem PagerAt.diskTurn {w w' : World} {L : PLoc} {S : Pgr} {lg' : Value} {D : Dsk} (h : PagerAt w L S) (k : DStp L.d L.bb L.lg lg' w w' D) : PagerAt w' { L with lg := lg' } { S with disk := D } := by
  have hn : ∀ (b : Nat) (o : Obj), w.heap[b]? = some o → (∀ cs T f, o = Obj.cells cs T f → T ≠ 83 ∧ T ≠ 9 ∧ T ≠ 112) → w'.heap[b]? = w.heap[b]? := by
    intro b o hb ho
    refine k.upd.block b (lt_of hb) (fun hd => ?_)
    obtain ⟨cs, T, hb', hT⟩ := h.disk.fp_cells hd
    rw [hb] at hb'
    simp at hb'
    obtain ⟨h1, h2, h3⟩ := ho _ _ _ hb'
    rcases hT with e | e | e
    · exact h1 e
    · exact h2 e
    · exact h3 e
  refine ⟨(hn _ _ h.p (fun cs T f e => by simp at e; obtain ⟨_, rfl, _⟩ := e; decide)).trans h.p, k.at_, ?_, ?_, fun q hq => (hn _ _ (h.page q hq) (fun cs T f e => by simp at e; obtain ⟨_, rfl, _⟩ := e; decide)).trans (h.page q hq), h.hc, h.inj⟩
  · obtain ⟨es, c, hb⟩ := h.held.obj
    exact h.held.congr (hn _ _ hb (fun cs T f e => by simp at e))
  · obtain ⟨es, c, hb⟩ := h.changed.obj
    exact h.changed.congr (hn _ _ hb (fun cs T f e => by simp at e))
theorem dfp_fp {L : PLoc} {S : Pgr} {b : Nat} (h : dfp L.d L.bb L.lg b) : L.fp S b := by
  rcases h with h | h | h
  · exact .inr (.inl h)
  · exact .inr (.inr (.inl h))
  · exact .inr (.inr (.inr (.inr (.inr (.inl h)))))

theorem pages_append (w : World) (base : Nat) (v : Value) (l : Pgs) (i : Int) (s : ByteArray) (hown : w.ownsRow base 112 2 v l.length (pageCells l)) (hlen : l.length < 1000000000000) (hb : base ≤ w.heap.size) :
    ∃ ao co w3, (Builtin.append_ #[81, 81] 81 #[v, .slice (some ⟨w.heap.size, 0, none⟩) 1 1]).run Tryz.prog (w.alloc (.cells #[.int .i64 i, .string s] 112)) = .ok (.slice ao (l.length + 1) co) w3 ∧
      w3.ownsRow base 112 2 (.slice ao (l.length + 1) co) (l.length + 1) (pageCells (l ++ [(i, s)])) ∧ (∀ w0 B, Below B w0 w → w0.heap.size ≤ base → B ≤ base → Below B w0 w3) := by
  obtain ⟨i0, hi, hz0, hz1, hz2⟩ := info_parts info_page
  obtain ⟨v3, w3, hr, hown3, hgr, _⟩ := run_append_own (P := Tryz.prog) (w.alloc (.cells #[.int .i64 i, .string s] 112)) base 81 81 112 i0 (.agg #[.int .i64 0, .string ⟨#[]⟩]) 2 24 Tryz.underlying81 hi hz0 hz1 hz2 rfl (by omega)
    v l.length (pageCells l) (hown.alloc _) ⟨w.heap.size, 0, none⟩ 1 1 [.int .i64 i, .string s] rfl (by
      intro k u hk
      have hadd : Addr.add ⟨w.heap.size, 0, none⟩ k = ⟨w.heap.size, k, none⟩ := by unfold Addr.add; split <;> simp_all
      rw [hadd, cell_new]
      simpa using hk) (by simp [Value.oneCell']) (by unfold maxLen; omega) (by omega) (by simp; omega)
  obtain ⟨ao, co, rfl⟩ := ownsRow_slice hown3
  refine ⟨ao, co, w3, hr, ?_, fun w0 B hB hw0 hBb => ?_⟩
  · rw [pageCells, List.flatMap_append]
    exact hown3
  · have hs := hB.size
    refine (hB.trans (((Below.refl _ w).alloc (Nat.le_refl _) _).mono ?_)).grown hgr (by simp; omega) (fun k hk => Nat.le_trans hBb (hown.lt k hk).1)
    omega
theorem Held.trans {w w1 w2 : World} {L L1 L2 : PLoc} {S S1 S2 : Pgr} (h : Held w w1 L S S1 L1) (k : Held w1 w2 L1 S1 S2 L2) : Held w w2 L S S2 L2 := by
  have h1 := h.upd.size
  have h2 := k.upd.size
  refine ⟨k.at_, k.p.trans h.p, k.d.trans h.d, fun b hb => ?_, h.upd.then k.upd (fun x hx hd => ?_)⟩
  · rcases k.fp b hb with h' | h'
    · rcases h.fp b h' with h'' | h''
      · exact .inl h''
      · exact .inr ⟨h''.1, by omega⟩
    · exact .inr ⟨by omega, h'.2⟩
  · rcases h.fp x hd with h' | h'
    · exact h'
    · omega
theorem Held.made {w w1 w2 : World} {L L1 : PLoc} {S S1 : Pgr} (h : Held w w1 L S S1 L1) (hB : Below w1.heap.size w1 w2) : Held w w2 L S S1 L1 :=
  ⟨below_pager hB h.at_, h.p, h.d, fun b hb => (h.fp b hb).imp id (fun x => ⟨x.1, by have := hB.size; omega⟩), h.upd.then (Upd.below hB (F := fun b => w1.heap.size ≤ b) (fun x hx hle => hle)) (fun x hx hle => by have := h.upd.size; omega)⟩
theorem Held.refl {w : World} {L : PLoc} {S : Pgr} (h : PagerAt w L S) : Held w w L S S L := ⟨h, rfl, rfl, fun b hb => .inl hb, Upd.refl _ _⟩
theorem Held.disk {w w1 : World} {L : PLoc} {S : Pgr} {lg' : Value} {D : Dsk} (h : PagerAt w L S) (k : DStp L.d L.bb L.lg lg' w w1 D) : Held w w1 L S { S with disk := D } { L with lg := lg' } := by
  have hat := h.diskTurn k
  refine ⟨hat, rfl, rfl, fun b hb => ?_, k.upd.mono (fun b _ hd => dfp_fp hd)⟩
  have hlt := hat.fp_lt hb
  rcases hb with h' | h' | h' | h' | h' | h' | h'
  · exact .inl (.inl h')
  · exact .inl (.inr (.inl h'))
  · exact .inl (.inr (.inr (.inl h')))
  · exact .inl (.inr (.inr (.inr (.inl h'))))
  · exact .inl (.inr (.inr (.inr (.inr (.inl h')))))
  · rcases k.log b h' with h2 | h2
    · exact .inl (.inr (.inr (.inr (.inr (.inr (.inl h2))))))
    · exact .inr ⟨h2, hlt⟩
  · exact .inl (.inr (.inr (.inr (.inr (.inr (.inr h'))))))
theorem Held.clear {w w1 : World} {L : PLoc} {S : Pgr} (h : PagerAt w L S) (hM : MapV w1 L.c []) (hT : Turn w w1 L.c) : Held w w1 L S { S with changed := [] } L :=
  ⟨h.turnChanged (l' := []) hM hT, rfl, rfl, fun b hb => .inl hb, (Upd.refl _ _).turn hT (fun _ => .inr (.inr (.inr (.inr (.inl rfl)))))⟩

set_option maxRecDepth 100000 in
set_option maxHeartbeats 4000000 in
theorem commit_at {w : World} {p d : Nat} {F : Nat → Prop} {S : Pgr} (h : PAt w p d F S) (hleft : S.disk.told = true → 0 ≤ S.disk.left ∧ S.disk.left < 9223372036854775808) (hlog : S.disk.log.length < 999999000000) (hc : S.clock < 4611686018427300000) :
    Calls Tryz.prog 42 #[.pointer (some ⟨p, 0, none⟩)] w fun e w' => e = .returned (.int .i64 S.commit.1) ∧ Stp F w w' p d S.commit.2 := by
  obtain ⟨L, rfl, rfl, hA, hF, hok⟩ := h
  have hD := dirty_at hA hok
  have hblk := hok.blocks
  have hfew : S.changed.length ≤ 1024 := by
    have h1 := pages_few (n := S.disk.n) (by unfold Dsk.n; omega) (by unfold Dsk.n; omega) hok.srtc (fun q hq => (hok.changed q hq).1)
    have h2 := jPages_bd S.disk.n
    omega
  have hwfc : ∀ q ∈ S.changed, (Lit.int .i64 q.1).wf = true := fun q hq => by
    have := isPage_bd (hok.changed q hq).1
    simp [Lit.wf, show IntKind.i64.min = -9223372036854775808 from rfl, show IntKind.i64.max = 9223372036854775807 from rfl]; omega
  have HA := Lib.hid hA
  have HOK := Lib.hid hok
  have HWF := Lib.hid hwfc
  obtain ⟨N, hN⟩ : ∃ N, N = S.changed.length := ⟨_, rfl⟩
  rw [← hN] at hfew
  have HN := Lib.hid hN
  clear hN hA hok hblk hwfc
  go_enter Tryz.func42, Tryz.ntmps42
  go_wp2_with fail
  refine hD.mono ?_
  rintro e w1 ⟨v, rfl, hrow, _, hB1⟩
  rw [← HN.out] at hrow
  obtain ⟨ad, cd, rfl⟩ := ownsRow_slice hrow
  have HROW := Lib.hid hrow
  have HB1 := Lib.hid hB1
  have hs1 := hB1.size
  have HA1 := Lib.hid (below_pager hB1 HA.out)
  clear hD hrow hB1
  go_wp2
  go_loopw [3, 14] (fun u v wr => ∃ (k : Nat) (ao : Option Addr) (co : Nat), u = .slice ao k co ∧ v = .int .i64 k ∧ k ≤ N ∧ Hid (wr.ownsRow w1.heap.size 112 2 (.slice ao k co) k (pageCells (S.changed.take k))) ∧ Below w1.heap.size w1 wr) (fun _ v _ => N - (intOf v).toNat)
  case atStart => exact ⟨0, none, 0, rfl, rfl, by omega, World.ownsRow_nil _ _ _ _, Below.refl _ w1⟩
  case round =>
    obtain ⟨k, ao, co, rfl, rfl, hk, HR, hB⟩ := hrel
    by_cases hlt : k < N
    · have hlt' : k < S.changed.length := by rw [← HN.out]; exact hlt
      have hAr := below_pager hB HA1.out
      have c3 := cell_of hAr.p 3
      simp at c3
      obtain ⟨gd, rfl⟩ : ∃ gd, ad = some ⟨gd, 0, none⟩ := by
        rcases HROW.out.2 with ⟨h, h0⟩ | ⟨gd, cap2, cur, h, _⟩
        · omega
        · simp only [Value.slice.injEq] at h; exact ⟨gd, h.1⟩
      have hck := HROW.out.cellAt k (by omega)
      rw [← hB.cell (p := ⟨gd, k, none⟩) ((HROW.out.lt gd rfl).2)] at hck
      rw [List.getElem?_map, List.getElem?_map, List.getElem?_eq_getElem hlt'] at hck
      simp only [Option.map_some, encZ] at hck
      have hwf := HWF.out _ (List.getElem_mem hlt')
      have hlook := hAr.changed.look (k := S.changed[k].1) Tryz.underlying108 (zero_str _) hwf
      rw [changedV_eq, mapV_get, mem_get HOK.out.srtc (show (S.changed[k].1, S.changed[k].2) ∈ S.changed from List.getElem_mem hlt')] at hlook
      simp only [Option.map_some, Option.getD_some] at hlook
      have hkl : (S.changed.take k).length = k := by simp; omega
      have hown := HR.out
      obtain ⟨ao2, co2, w3, hrun, hown3, hBl3⟩ := pages_append wr w1.heap.size (.slice ao k co) (S.changed.take k) S.changed[k].1 S.changed[k].2 (by rw [hkl]; exact hown) (by omega) hB.size
      rw [hkl] at hrun hown3
      rw [show S.changed.take k ++ [(S.changed[k].1, S.changed[k].2)] = S.changed.take (k + 1) from (List.take_succ_eq_append_getElem hlt').symm] at hown3
      have HOWN3 := Lib.hid hown3
      have HB3 := Lib.hid (hBl3 w1 w1.heap.size hB (Nat.le_refl _) (Nat.le_refl _))
      clear hown3 hBl3 hown hAr HR
      generalize S.changed[k].1 = y at *
      generalize S.changed[k].2 = x at *
      go_wp2_with (at_builtin; refine wpList_append_run hrun rfl rfl rfl rfl rfl ?_)
      go_roundw
      case rel => exact ⟨k + 1, ao2, co2, rfl, rfl, by omega, HOWN3, HB3.out⟩
      case measure => simp [intOf]; omega
    · obtain rfl : k = N := by omega
      have hown := HR.out
      rw [List.take_of_length_le (by have := HN.out; omega)] at hown
      have hBw : Below w.heap.size w wr := HB1.out.trans (hB.mono hs1)
      have hAr := below_pager hBw HA.out
      have hH0 : Held w wr L S S L := (Held.refl HA.out).made hBw
      obtain ⟨g, og, hga, hgo, hgr, hgd, hgf⟩ : ∃ g og, (S.changed ≠ [] → ao = some ⟨g, 0, none⟩) ∧ wr.heap[g]? = some og ∧ RowP og S.changed ∧ ¬ dfp L.d L.bb L.lg g ∧ (S.changed ≠ [] → ¬ L.fp S g) := by
        by_cases hz : S.changed = []
        · refine ⟨L.p, _, fun h => absurd hz h, hAr.p, ?_, fun hd => ?_, fun h => absurd hz h⟩
          · rw [hz]; exact ⟨_, _, _, rfl, fun i hi => by simp at hi⟩
          · obtain ⟨cs, T, hb', hT⟩ := hAr.disk.fp_cells hd
            rw [hAr.p] at hb'
            simp at hb'
            obtain ⟨_, rfl⟩ := hb'
            rcases hT with e | e | e <;> simp at e
        · have hpos : 1 ≤ S.changed.length := List.length_pos_iff.2 hz
          obtain ⟨g, rfl⟩ : ∃ g, ao = some ⟨g, 0, none⟩ := by
            rcases hown.2 with ⟨h, h0⟩ | ⟨gd, cap2, cur, h, _⟩
            · have := HN.out; omega
            · simp only [Value.slice.injEq] at h; exact ⟨gd, h.1⟩
          obtain ⟨og, ho, hr⟩ := rowP_of HN.out hown
          have hge := (hown.lt g rfl).1
          have hnf : ¬ L.fp S g := fun hf => by have := HA.out.fp_lt hf; omega
          exact ⟨g, og, fun _ => rfl, ho, hr, fun hd => hnf (dfp_fp hd), fun _ => hnf⟩
      have hJ := jcommit_any (cap := co) hAr.disk hleft S.changed hlog (by have := HN.out; omega) HWF.out hga hgo hgr hgd
      rw [← HN.out] at hJ
      have c0 := cell_of hAr.p 0
      simp at c0
      have HJ := Lib.hid hJ
      have HAR := Lib.hid hAr
      have HGR := Lib.hid hgr
      have HGF := Lib.hid hgf
      have HGA := Lib.hid hga
      have HH0 := Lib.hid hH0
      clear hJ hAr hown HR hgr hgd hBw hlt hH0 hgf hga
      go_wp2_with fail
      refine HJ.out.mono ?_
      rintro e w2 ⟨rfl, lg', hst⟩
      have hH2 := HH0.out.trans (Held.disk HAR.out hst)
      have hgood := S.disk.commit_good S.changed
      have hcm : S.commit = if (S.disk.commit S.changed).1 ≠ 0 then ((S.disk.commit S.changed).1, { S with disk := (S.disk.commit S.changed).2 }) else (0, (S.emptied (S.disk.commit S.changed).2).holds S.changed) := rfl
      have HCM := Lib.hid hcm
      have hgo2 : S.changed ≠ [] → w2.heap[g]? = some og ∧ ¬ ({ L with lg := lg' } : PLoc).fp { S with disk := (S.disk.commit S.changed).2 } g := fun hz => by
        refine ⟨(hst.upd.block g (lt_of hgo) (fun hd => HGF.out hz (dfp_fp hd))).trans hgo, fun hf => ?_⟩
        rcases (Held.disk HAR.out hst).fp g hf with h' | h'
        · exact HGF.out hz h'
        · have := lt_of hgo; omega
      have HGO2 := Lib.hid hgo2
      clear HJ HAR HH0 hst hcm hgo hgo2
      by_cases hz : (S.disk.commit S.changed).1 ≠ 0
      · have hcz : S.commit = ((S.disk.commit S.changed).1, { S with disk := (S.disk.commit S.changed).2 }) := by rw [HCM.out, if_pos hz]
        have hzb : ((S.disk.commit S.changed).1 != 0) = true := by simpa using hz
        have HFIN : Hid (Stp F w w2 L.p L.d { S with disk := (S.disk.commit S.changed).2 }) := Stp.of hF hH2 (disk_ok HOK.out hgood)
        clear hH2 hgood
        go_wp2
        go_ret
        exact ⟨by rw [hcz]; rfl, by rw [hcz]; exact HFIN.out⟩
      · have hz0 : (S.disk.commit S.changed).1 = 0 := by omega
        have hcz : S.commit = (0, (S.emptied (S.disk.commit S.changed).2).holds S.changed) := by rw [HCM.out, if_neg hz]
        obtain ⟨w3, hclr, hM3, hT3⟩ := hH2.at_.changed.clear Tryz.underlying108 0
        have hH3 := hH2.trans (Held.clear hH2.at_ hM3 hT3)
        have c3 := cell_of hH2.at_.p 3
        simp at c3
        have hemp : Held w w3 L S (S.emptied (S.disk.commit S.changed).2) { L with lg := lg' } := hH3
        have HGO3 : Hid (S.changed ≠ [] → w3.heap[g]? = some og ∧ ¬ ({ L with lg := lg' } : PLoc).fp (S.emptied (S.disk.commit S.changed).2) g) := fun hne => by
          obtain ⟨h1, h2⟩ := HGO2.out hne
          refine ⟨(hT3.block g (fun e => h2 (.inr (.inr (.inr (.inr (.inl e))))))).trans h1, h2⟩
        have HE := Lib.hid hemp
        have HCZ := Lib.hid hcz
        rw [hz0]
        have hn3 : (S.disk.commit S.changed).2.n = S.disk.n := by unfold Dsk.n; rw [hgood.len]
        have HOK3 := Lib.hid (emptied_ok HOK.out hgood)
        have HEACH : Hid (∀ q ∈ S.changed, get q.1 (S.emptied (S.disk.commit S.changed).2).held = none ∧ isPage (S.emptied (S.disk.commit S.changed).2).disk.n q.1 = true ∧ q.2.size = 256) := by
          intro q hq
          refine ⟨?_, by show isPage (S.disk.commit S.changed).2.n q.1 = true; rw [hn3]; exact (HOK.out.changed q hq).1, (HOK.out.changed q hq).2⟩
          show get q.1 S.held = none
          cases hgt : get q.1 S.held with
          | none => rfl
          | some x =>
            have := HOK.out.apart _ (get_mem hgt)
            simp only at this
            rw [mem_get HOK.out.srtc (show (q.1, q.2) ∈ S.changed from hq)] at this
            cases this
        have hck : (S.emptied (S.disk.commit S.changed).2).clock = S.clock := rfl
        have HCK := Lib.hid hck
        have HC3 : Hid ((S.emptied (S.disk.commit S.changed).2).changed = []) := rfl
        clear hcz hemp hH3 hH2 hM3 hT3 HGO2 hgood hz hz0 hn3 HCM hck
        generalize S.emptied (S.disk.commit S.changed).2 = S3 at *
        go_wp2
        go_loopw [45] (fun u wr' => ∃ (j : Nat) (L' : PLoc), u = .int .i64 j ∧ j ≤ k ∧ Hid (Held w wr' L S (S3.holds (S.changed.take j)) L') ∧ Hid (S.changed ≠ [] → wr'.heap[g]? = some og ∧ ¬ L'.fp (S3.holds (S.changed.take j)) g)) (fun u _ => k - (intOf u).toNat)
        case atStart => exact ⟨0, _, rfl, by omega, HE, HGO3⟩
        case round =>
          obtain ⟨j, L', rfl, hj, HH, HG⟩ := hrel
          by_cases hlt : j < k
          · have hlt' : j < S.changed.length := by rw [← HN.out]; exact hlt
            have hne : S.changed ≠ [] := by intro e; rw [e] at hlt'; simp at hlt'
            obtain ⟨hg1, hg2⟩ := HG.out hne
            obtain ⟨hb0, hb1⟩ := HGR.out.cell hg1 hlt'
            have hae := HGA.out hne
            subst hae
            have hsub : ∀ q ∈ S.changed.take j, q ∈ S.changed := fun q hq => List.mem_of_mem_take hq
            have hsrt : Srt (S.changed.take j) := List.Pairwise.sublist (List.take_sublist _ _) HOK.out.srtc
            obtain ⟨i1, i2, i3, i4, i5, i6, i7⟩ := holds_ok (S.changed.take j) S3 HOK3.out hsrt (by have := HOK3.out; exact HC3.out) (fun q hq => HEACH.out q (hsub q hq))
            obtain ⟨e1, e2, e3⟩ := HEACH.out _ (List.getElem_mem hlt')
            have hnone := i7 S.changed[j].1 (fun q hq e => by
              have hp := List.pairwise_append.1 (by rw [List.take_append_drop]; exact HOK.out.srtc : Srt (S.changed.take j ++ S.changed.drop j))
              have := hp.2.2 q hq S.changed[j] (by have hdr := List.drop_eq_getElem_cons hlt'; rw [hdr]; exact .head _)
              omega) e1
            have hlen : ((S.changed.take j).length : Int) ≤ 1024 := by simp; omega
            have hclk : (S3.holds (S.changed.take j)).clock < 4611686018427387904 := by have := HCK.out; omega
            have hold := fun (wx : World) (hx : PagerAt wx L' (S3.holds (S.changed.take j))) => hold_at hx i1 S.changed[j].1 S.changed[j].2 hnone (by rw [i3]; exact e2) hclk
            rw [show L'.p = L.p from HH.out.p] at hold
            have hsn := holds_snoc (S.changed.take j) S3 S.changed[j]
            rw [← List.take_succ_eq_append_getElem hlt'] at hsn
            have HSN := Lib.hid hsn
            have HHOLD := Lib.hid (hold _ (below_pager ((Below.refl _ wr).alloc (Nat.le_refl _) (boxP S.changed[j])) HH.out.at_))
            have HMADE := Lib.hid (HH.out.made ((Below.refl _ wr).alloc (Nat.le_refl _) (boxP S.changed[j])))
            have hgA : (wr.alloc (boxP S.changed[j])).heap[g]? = some og := (Below.heap_alloc wr _ g (lt_of hg1)).trans hg1
            unfold boxP at HHOLD HMADE hgA
            clear hsn hold hsrt hsub i1 i2 i3 i4 i5 i6 i7 e1 e2 e3 hnone hlen hclk
            generalize S.changed[j].1 = y at *
            generalize S.changed[j].2 = x at *
            go_wp2_with fail
            refine HHOLD.out.mono ?_
            rintro e w5 ⟨L5, v5, rfl, hH5, _, _⟩
            have HH5 : Hid (Held w w5 L S (S3.holds (S.changed.take (j + 1))) L5) := by show Held _ _ _ _ _ _; rw [HSN.out]; exact HMADE.out.trans hH5
            have HG5 : Hid (S.changed ≠ [] → w5.heap[g]? = some og ∧ ¬ L5.fp (S3.holds (S.changed.take (j + 1))) g) := fun _ => by
              refine ⟨(hH5.upd.block g (lt_of hgA) hg2).trans hgA, fun hf => ?_⟩
              rw [HSN.out] at hf
              rcases hH5.fp g hf with h' | h'
              · exact hg2 h'
              · have := lt_of hgA; omega
            clear hH5 HHOLD HMADE HSN
            go_wp2
            go_roundw
            case rel => exact ⟨j + 1, L5, rfl, by omega, HH5, HG5⟩
            case measure => simp [intOf]; omega
          · obtain rfl : j = k := by omega
            have HFIN : Hid (Stp F w wr L.p L.d (S3.holds S.changed)) := by
              have hh := HH.out
              rw [List.take_of_length_le (by have := HN.out; omega)] at hh
              refine Stp.of hF hh ?_
              exact (holds_ok S.changed S3 HOK3.out HOK.out.srtc HC3.out HEACH.out).1
            clear HH HG
            go_wp2
            go_ret
            exact ⟨by rw [HCZ.out]; rfl, by rw [HCZ.out]; exact HFIN.out⟩
end Go.Proofs.YtdoankamaobkoaaGreatDoor
