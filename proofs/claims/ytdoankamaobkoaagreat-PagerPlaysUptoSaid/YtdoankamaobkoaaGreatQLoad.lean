/- The reference's pager: Load. -/
import Derived.Test.YtdoankamaobkoaaGreatQSet
set_option linter.unusedSimpArgs false
set_option linter.unusedVariables false
namespace Go.Proofs.YtdoankamaobkoaaGreat
open Go.RowKit Go.Maps Go.Shelf

/-- what the walks read of the reference's pager -/
structure RSees (W : World) (r q : Nat) (lv cv bv lgv : Value) (S : Pgr) (L : List (Int × Pg)) : Prop where
  c0 : W.cell? ⟨r, 0, none⟩ = some (.pointer (some ⟨q, 0, none⟩))
  c1 : W.cell? ⟨r, 1, none⟩ = some (.int .i64 S.room)
  c2 : W.cell? ⟨r, 2, none⟩ = some lv
  c3 : W.cell? ⟨r, 3, none⟩ = some cv
  c4 : W.cell? ⟨r, 4, none⟩ = some (.int .i64 S.reads)
  f2 : W.frozen? ⟨r, 2, none⟩ = false
  f3 : W.frozen? ⟨r, 3, none⟩ = false
  f4 : W.frozen? ⟨r, 4, none⟩ = false
  q0 : W.cell? ⟨q, 0, none⟩ = some bv
theorem RMem.sees {w : World} {r q : Nat} {lv cv bv lgv : Value} {S : Pgr} {L : List (Int × Pg)} (h : RMem w r q lv cv bv lgv S L) : RSees w r q lv cv bv lgv S L :=
  ⟨by rw [cell_of h.r]; rfl, by rw [cell_of h.r]; rfl, by rw [cell_of h.r]; rfl, by rw [cell_of h.r]; rfl, by rw [cell_of h.r]; rfl, frozen_of h.r 2, frozen_of h.r 3, frozen_of h.r 4, by rw [cell_of h.q]; rfl⟩
theorem page_may {S : Pgr} {i : Int} : isPage S.disk.n i = true ↔ S.may i = 0 := by
  unfold Pgr.may; split <;> simp_all
section
variable {w : World} {r q : Nat} {S : Pgr} {L : List (Int × Pg)} {G : Nat → Prop}
theorem Pgr.Ok.chg_len (hok : S.Ok) : S.changed.length ≤ 4096 := by
  have h := changed_may hok
  unfold jMay at h
  have hb := jPages_bd S.disk.n
  split at h
  · omega
  · omega
theorem Ord.len_bd (ho : Ord S L) (hok : S.Ok) : L.length ≤ 1024 := by
  have := ho.len
  have := hok.len
  have := hok.room
  omega
theorem hold_as (S : Pgr) (i : Int) (s : ByteArray) : (S.hold i s).room = S.room ∧ (S.hold i s).changed = S.changed ∧ (S.hold i s).reads = S.reads ∧ (S.hold i s).disk = S.disk := by
  unfold Pgr.hold
  split
  · split <;> exact ⟨rfl, rfl, rfl, rfl⟩
  · exact ⟨rfl, rfl, rfl, rfl⟩
set_option maxRecDepth 100000 in
set_option maxHeartbeats 4000000 in
theorem qload_any (h : RAt w r q G S L) (ho : Ord S L) (hok : S.Ok) (hrd : S.reads ≤ 1000000000000000000) (i : Int) :
    Calls Tryz.prog 45 #[.pointer (some ⟨r, 0, none⟩), .int .i64 i] w fun e w' => e = .returned (.tuple #[.string (S.load i).1.1, .int .i64 (S.load i).1.2]) ∧ ∃ L', Ord (S.load i).2 L' ∧ RStp w w' r q G (S.load i).2 L' := by
  have hl := ho.len_bd hok
  have hcl := hok.chg_len
  have hn : S.disk.n = (S.disk.blocks.length : Int) := rfl
  have hb64 := hok.blocks
  have hpg := page10_any S.disk.n i w (by omega) (by omega)
  rw [hn] at hpg
  have hch := changed_any h i hcl
  have hat := at_any h i (by omega)
  have HEND0 : Hid (RStp w w r q G S L) := RStp.refl h
  have HST := Lib.hid h
  obtain ⟨lv, cv, bv, lgv, hM, hG⟩ := h
  have hse := hM.sees
  obtain ⟨bao, bco, rfl⟩ := ownsRow_slice hM.blk
  obtain ⟨c0, c1, c2, c3, c4, f2, f3, f4, q0⟩ := hse
  by_cases hp : isPage S.disk.n i = true
  · have hm : S.may i = 0 := page_may.1 hp
    rw [hn] at hp
    rw [hp] at hpg
    cases hx : chgIx S.changed i with
    | some j =>
      obtain ⟨hj, hg⟩ := chgIx_some hok.srtc hx
      have e : S.load i = ((S.changed[j].2, 0), S) := by unfold Pgr.load; rw [if_neg (by omega), hg]
      rw [e]
      obtain ⟨g, cap, rfl, -, t1⟩ := hM.chgAt hj
      rw [hx, show ixI (some j) = (j : Int) from rfl] at hch
      have HO := Lib.hid ho
      clear hat hM hG HST e hg hx ho hok hm
      generalize S.disk.blocks.length = M at *
      generalize S.changed[j].2 = tx at *
      generalize S.changed.length = N at *
      go_enter Tryz.func45, Tryz.ntmps45
      go_wp2_with (first
        | (go_at_call 70; refine hpg.mono ?_; rintro e w' ⟨rfl, rfl⟩)
        | (go_at_call 71; refine hch.mono ?_; rintro e w' ⟨rfl, rfl⟩))
      go_ret2
      exact ⟨rfl, L, HO.out, HEND0.out⟩
    | none =>
      have hg := chgIx_none hx
      rw [hx, show ixI none = -1 from rfl] at hch
      cases hy : atIx L i with
      | some j =>
        obtain ⟨hj, hji, hgh⟩ := atIx_some ho hok hy
        have e : S.load i = ((L[j].2.data, 0), S.use i L[j].2) := by unfold Pgr.load; rw [if_neg (by omega), hg]; simp only; rw [hgh]
        rw [e]
        rw [hy, show ixI (some j) = (j : Int) from rfl] at hat
        have hus := quse_any HST.out j hj (i, { L[j].2 with used := S.clock + 1 }) hji.symm rfl rfl (by omega)
        have HO : Hid (Ord (S.use i L[j].2) (L.eraseIdx j ++ [(i, { L[j].2 with used := S.clock + 1 })])) := ho.use hok hj hji hgh L[j].2
        obtain ⟨L', hL'⟩ : ∃ L', L.eraseIdx j ++ [(i, { L[j].2 with used := S.clock + 1 })] = L' := ⟨_, rfl⟩
        have hlen' : L'.length = L.length := by rw [← hL', List.length_append, List.length_eraseIdx_of_lt hj]; simp; omega
        have hlast : ∀ (k : Nat) (hk : k < L'.length), k + 1 = L.length → L'[k].2.data = L[j].2.data := fun k hk e => by
          subst hL'
          have hlen2 : (L.eraseIdx j).length = k := by rw [List.length_eraseIdx_of_lt hj]; omega
          rw [List.getElem_append_right (by omega)]
          simp [hlen2]
        rw [hL'] at hus HO
        have HEND : Hid (∀ w2, RStp w w2 r q G S L' → RStp w (w2) r q G (S.use i L[j].2) L') := fun w2 hst => hst.as rfl rfl rfl rfl
        have HRD : Hid (∀ w2, RStp w w2 r q G S L' → ∃ g cap, (∀ m, (w2.drewN m).cell? ⟨r, 2, none⟩ = some (.slice (some ⟨g, 0, none⟩) L.length cap)) ∧ (∀ m, (w2.drewN m).cell? ⟨g, (L.length - 1) * 3 + 2, none⟩ = some (.string L[j].2.data)) ∧ ∀ m, RStp w (w2.drewN m) r q G S L') := fun w2 hst => by
          obtain ⟨lv2, cv2, bv2, lgv2, hM2, -⟩ := hst.at_
          obtain ⟨g, cap, rfl, -, -, t2⟩ := hM2.listAt (i := L.length - 1) (by omega)
          rw [hlast _ _ (by omega)] at t2
          have c2 := hM2.sees.c2
          rw [hlen'] at c2
          exact ⟨g, cap, fun m => c2, fun m => t2, fun m => hst.made (qdrew_below w2 m)⟩
        have hL0 : 0 < L.length := by omega
        generalize S.use i L[j].2 = S2 at *
        generalize L[j].2.data = tx at *
        generalize S.disk.blocks.length = M at *
        generalize S.changed.length = N at *
        obtain ⟨K, hK⟩ : ∃ K, L.length = K + 1 := ⟨L.length - 1, by omega⟩
        rw [hK] at HRD
        simp only [Nat.add_sub_cancel] at HRD
        clear hM hG HST e hg hx ho hok hm hgh hlast hlen' hL' hy hj hji hcl hL0
        have hK2 : K ≤ 1024 := by omega
        clear hK hl
        go_enter Tryz.func45, Tryz.ntmps45
        go_upto_region 8 with (first
          | (go_at_call 70; refine hpg.mono ?_; rintro e w' ⟨rfl, rfl⟩)
          | (go_at_call 71; refine hch.mono ?_; rintro e w' ⟨rfl, rfl⟩)
          | (go_at_call 72; refine hat.mono ?_; rintro e w' ⟨rfl, rfl⟩))
        go_wp2_with fail
        refine hus.mono ?_
        rintro e w2 ⟨rfl, hst⟩
        obtain ⟨g, cap, d2, t2, hst3⟩ := HRD.out w2 hst
        have HST3 := Lib.hid (fun m => HEND.out _ (hst3 m))
        clear hst hst3 HRD HEND hus c0 c1 c2 c3 c4 q0
        go_upto_region 9 with fail
        go_quiet (fail)
        go_wp2
        go_ret2
        exact ⟨rfl, L', HO.out, HST3.out _⟩
      | none =>
        have hgh := atIx_none ho hy
        rw [hy, show ixI none = -1 from rfl] at hat
        have hrea := qread_any hM.qd i
        have HO := Lib.hid ho
        by_cases hr0 : (S.disk.read i).2 = 0
        · have e : S.load i = (((S.disk.read i).1, 0), (S.read i).2.hold i (S.disk.read i).1) := by unfold Pgr.load; rw [if_neg (by omega), hg]; simp only; rw [hgh]; simp only; rw [if_neg (by omega)]
          rw [e]
          have e1 : (S.read i).2 = { S with reads := S.reads + 1 } := by unfold Pgr.read; simp only; rw [if_pos hr0]
          rw [e1]
          have hok1 : ({ S with reads := S.reads + 1 } : Pgr).Ok := { hok with reads := by show 0 ≤ S.reads + 1; have := hok.reads; omega }
          have ho1 : Ord ({ S with reads := S.reads + 1 } : Pgr) L := ⟨ho.perm, ho.srt⟩
          have hst1 := HST.out.reads
          have hho := qhold_any hst1.at_ i (S.disk.read i).1 (by omega)
          have HO2 := Lib.hid (ho1.hold hok1 hgh (S.disk.read i).1)
          have HEND : Hid (∀ w2, RStp (w.setCell ⟨r, 4, none⟩ (.int .i64 (S.reads + 1))) w2 r q (ext G w (w.setCell ⟨r, 4, none⟩ (.int .i64 (S.reads + 1)))) { S with reads := S.reads + 1 } (rHold { S with reads := S.reads + 1 } L i (S.disk.read i).1) →
              RStp w w2 r q G (({ S with reads := S.reads + 1 } : Pgr).hold i (S.disk.read i).1) (rHold { S with reads := S.reads + 1 } L i (S.disk.read i).1)) := fun w2 hst => by
            obtain ⟨a1, a2, a3, a4⟩ := hold_as ({ S with reads := S.reads + 1 } : Pgr) i (S.disk.read i).1
            exact (hst1.trans hst).as a1 a2 a3 a4
          rw [hr0] at hrea
          generalize (S.disk.read i).1 = tx at *
          generalize (({ S with reads := S.reads + 1 } : Pgr).hold i tx) = S2 at *
          generalize (rHold { S with reads := S.reads + 1 } L i tx) = L2 at *
          have hrd0 := hok.reads
          clear hM hG HST e hg hx ho hok hm hgh hok1 ho1 hst1 e1 hr0 hy
          generalize S.disk.blocks.length = M at *
          go_enter Tryz.func45, Tryz.ntmps45
          go_wp2_with (first
            | (go_at_call 70; refine hpg.mono ?_; rintro e w' ⟨rfl, rfl⟩)
            | (go_at_call 71; refine hch.mono ?_; rintro e w' ⟨rfl, rfl⟩)
            | (go_at_call 72; refine hat.mono ?_; rintro e w' ⟨rfl, rfl⟩)
            | (go_at_call 74; refine hrea.mono ?_; rintro e w' ⟨rfl, rfl⟩))
          refine hho.mono ?_
          rintro e w2 ⟨rfl, hst⟩
          have HST3 := Lib.hid (HEND.out _ hst)
          clear hst HEND hho
          go_wp2
          go_ret2
          exact ⟨rfl, L2, HO2.out, HST3.out⟩
        · have e : S.load i = ((⟨#[]⟩, (S.disk.read i).2), S) := by unfold Pgr.load; rw [if_neg (by omega), hg]; simp only; rw [hgh]; simp only; rw [if_pos hr0]
          rw [e]
          have hbr : ((S.disk.read i).2 != 0) = true := by simpa using hr0
          generalize (S.disk.read i).1 = tx at *
          generalize (S.disk.read i).2 = er at *
          clear hM hG HST e hg hx ho hok hm hgh hr0 hy
          generalize S.disk.blocks.length = M at *
          go_enter Tryz.func45, Tryz.ntmps45
          go_wp2_with (first
            | (go_at_call 70; refine hpg.mono ?_; rintro e w' ⟨rfl, rfl⟩)
            | (go_at_call 71; refine hch.mono ?_; rintro e w' ⟨rfl, rfl⟩)
            | (go_at_call 72; refine hat.mono ?_; rintro e w' ⟨rfl, rfl⟩)
            | (go_at_call 74; refine hrea.mono ?_; rintro e w' ⟨rfl, rfl⟩))
          go_ret2
          exact ⟨rfl, L, HO.out, HEND0.out⟩
  · have hm : S.may i ≠ 0 := fun e => hp (page_may.2 e)
    have e : S.load i = ((⟨#[]⟩, 1), S) := by
      unfold Pgr.load; rw [if_pos hm]
      unfold Pgr.may; rw [if_neg hp]
    rw [e]
    rw [hn] at hp
    rw [show isPage (S.disk.blocks.length : Int) i = false by simpa using hp] at hpg
    have HO := Lib.hid ho
    generalize S.disk.blocks.length = M at *
    clear hat hM hG HST e ho hok hm hp hch
    go_enter Tryz.func45, Tryz.ntmps45
    go_wp2_with (first
      | (go_at_call 70; refine hpg.mono ?_; rintro e w' ⟨rfl, rfl⟩))
    go_ret2
    exact ⟨rfl, L, HO.out, HEND0.out⟩
end
end Go.Proofs.YtdoankamaobkoaaGreat
