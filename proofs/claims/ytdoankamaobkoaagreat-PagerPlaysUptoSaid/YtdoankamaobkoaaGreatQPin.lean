/- The reference's pager: Pin, Unpin. -/
import Derived.Test.YtdoankamaobkoaaGreatQStore
set_option linter.unusedSimpArgs false
set_option linter.unusedVariables false
namespace Go.Proofs.YtdoankamaobkoaaGreat
open Go.RowKit Go.Maps Go.Shelf

section
variable {w : World} {r q : Nat} {S : Pgr} {L : List (Int × Pg)} {G : Nat → Prop}
theorem RAt.pins_at (h : RAt w r q G S L) {j : Nat} (hj : j < L.length) (p : Int) : ∃ g cap, w.cell? ⟨r, 2, none⟩ = some (.slice (some ⟨g, 0, none⟩) L.length cap) ∧ w.cell? ⟨g, j * 3 + 1, none⟩ = some (.int .i64 L[j].2.pins) ∧ w.frozen? ⟨g, j * 3 + 1, none⟩ = false ∧
    RStp w (w.setCell ⟨g, j * 3 + 1, none⟩ (.int .i64 p)) r q G S (L.set j (L[j].1, { L[j].2 with pins := p })) := by
  obtain ⟨lv, cv, bv, lgv, hM, hf⟩ := h
  obtain ⟨g, cap, rfl, h1, h2, h3⟩ := hM.pins hj p
  exact ⟨g, cap, hM.sees.c2, h1, h2, ⟨_, cv, bv, lgv, h3, fun b hb => .inl (hf b hb)⟩, (Upd.refl _ w).setCell _ (fun _ => hf g (.inr (.inr (.inl (by simp [Value.ownBlock]))))) _⟩
theorem RAt.pins_last {A : List (Int × Pg)} {v : Int × Pg} (h : RAt w r q G S (A ++ [v])) (p : Int) : ∃ g cap, w.cell? ⟨r, 2, none⟩ = some (.slice (some ⟨g, 0, none⟩) (A.length + 1) cap) ∧ w.cell? ⟨g, A.length * 3 + 1, none⟩ = some (.int .i64 v.2.pins) ∧ w.frozen? ⟨g, A.length * 3 + 1, none⟩ = false ∧
    RStp w (w.setCell ⟨g, A.length * 3 + 1, none⟩ (.int .i64 p)) r q G S (A ++ [(v.1, { v.2 with pins := p })]) := by
  obtain ⟨g, cap, h1, h2, h3, h4⟩ := h.pins_at (j := A.length) (by simp) p
  simp only [List.getElem_concat_length, List.length_append, List.length_singleton] at h1 h2 h4
  rw [List.set_append_right _ _ (Nat.le_refl _)] at h4
  simp only [Nat.sub_self, List.set_cons_zero] at h4
  exact ⟨g, cap, h1, h2, h3, h4⟩
theorem rHold_last (S : Pgr) (L : List (Int × Pg)) (i : Int) (s : ByteArray) (h : ¬ (S.room ≤ (L.length : Int) ∧ freeIx L = none)) : ∃ A, rHold S L i s = A ++ [(i, ⟨s, 0, S.clock + 1⟩)] ∧ A.length ≤ L.length := by
  unfold rHold
  by_cases hf : S.room ≤ (L.length : Int)
  · rw [if_pos hf]
    cases hx : freeIx L with
    | none => exact absurd ⟨hf, hx⟩ h
    | some j => exact ⟨_, rfl, by rw [List.length_eraseIdx]; split <;> omega⟩
  · rw [if_neg hf]
    exact ⟨L, rfl, Nat.le_refl _⟩
theorem eraseIdx_last {α : Type} (A : List α) (v : α) : (A ++ [v]).eraseIdx A.length = A := by
  rw [List.eraseIdx_append_of_length_le (Nat.le_refl _)]
  simp
set_option maxRecDepth 100000 in
set_option maxHeartbeats 4000000 in
theorem qunpin_any (h : RAt w r q G S L) (ho : Ord S L) (hok : S.Ok) (i : Int) (hpn : ∀ q ∈ S.held, q.2.pins ≤ 1000000000000000000) :
    Calls Tryz.prog 48 #[.pointer (some ⟨r, 0, none⟩), .int .i64 i] w fun e w' => e = .returned (.int .i64 (S.unpin i).1) ∧ ∃ L', Ord (S.unpin i).2 L' ∧ RStp w w' r q G (S.unpin i).2 L' := by
  have hl := ho.len_bd hok
  have hat := at_any h i (by omega)
  have HEND0 : Hid (RStp w w r q G S L) := RStp.refl h
  cases hy : atIx L i with
  | none =>
    have hgh := atIx_none ho hy
    rw [hy, show ixI none = -1 from rfl] at hat
    have e : S.unpin i = (8, S) := by unfold Pgr.unpin; rw [hgh]
    rw [e]
    have HO := Lib.hid ho
    clear h ho hok e
    go_enter Tryz.func48, Tryz.ntmps48
    go_wp2_with (go_at_call 72; refine hat.mono ?_; rintro e w' ⟨rfl, rfl⟩)
    go_ret
    exact ⟨rfl, L, HO.out, HEND0.out⟩
  | some j =>
    obtain ⟨hj, hji, hgh⟩ := atIx_some ho hok hy
    rw [hy, show ixI (some j) = (j : Int) from rfl] at hat
    have hpins : 0 ≤ L[j].2.pins := (hok.held _ (get_mem hgh)).2.1
    have hmem := get_mem hgh
    have hpb : L[j].2.pins ≤ 1000000000000000000 := hpn (i, L[j].2) hmem
    clear hmem
    obtain ⟨g, cap, c2, t1, f1, hst⟩ := h.pins_at hj (L[j].2.pins - 1)
    have HO := Lib.hid ho
    by_cases hp0 : L[j].2.pins = 0
    · have e : S.unpin i = (8, S) := by unfold Pgr.unpin; rw [hgh]; simp only; rw [if_pos hp0]
      rw [e]
      rw [hp0] at t1
      clear h ho hok e hst hy hji hgh
      generalize L[j].2.pins = pn at *
      generalize L.length = K at *
      go_enter Tryz.func48, Tryz.ntmps48
      go_wp2_with (go_at_call 72; refine hat.mono ?_; rintro e w' ⟨rfl, rfl⟩)
      go_ret
      exact ⟨rfl, _, HO.out, HEND0.out⟩
    · have e : S.unpin i = (0, { S with held := ins i { L[j].2 with pins := L[j].2.pins - 1 } S.held }) := by unfold Pgr.unpin; rw [hgh]; simp only; rw [if_neg hp0]
      rw [e]
      have hbp : (L[j].2.pins == 0) = false := by simpa using hp0
      have HO2 := Lib.hid (ho.set hok hj hji hgh (L[j].2.pins - 1))
      rw [hji] at hst
      have HST := Lib.hid (hst.as (S' := { S with held := ins i { L[j].2 with pins := L[j].2.pins - 1 } S.held }) rfl rfl rfl rfl)
      clear h ho hok e hst hy hji hgh hp0
      generalize ({ S with held := ins i { L[j].2 with pins := L[j].2.pins - 1 } S.held } : Pgr) = S2 at *
      generalize L.set j (i, { L[j].2 with pins := L[j].2.pins - 1 }) = L2 at *
      generalize L[j].2.pins = pn at *
      generalize L.length = K at *
      go_enter Tryz.func48, Tryz.ntmps48
      go_wp2_with (go_at_call 72; refine hat.mono ?_; rintro e w' ⟨rfl, rfl⟩)
      go_ret
      exact ⟨rfl, _, HO2.out, HST.out⟩
set_option maxRecDepth 100000 in
set_option maxHeartbeats 8000000 in
theorem qpin_any (h : RAt w r q G S L) (ho : Ord S L) (hok : S.Ok) (hrd : S.reads ≤ 1000000000000000000) (i : Int) (hpn : ∀ q ∈ S.held, q.2.pins ≤ 1000000000000000000) :
    Calls Tryz.prog 47 #[.pointer (some ⟨r, 0, none⟩), .int .i64 i] w fun e w' => e = .returned (.int .i64 (S.pin i).1) ∧ ∃ L', Ord (S.pin i).2 L' ∧ RStp w w' r q G (S.pin i).2 L' := by
  have hl := ho.len_bd hok
  have hcl := hok.chg_len
  have hn : S.disk.n = (S.disk.blocks.length : Int) := rfl
  have hb64 := hok.blocks
  have hpg := page10_any S.disk.n i w (by omega) (by omega)
  rw [hn] at hpg
  have hch := changed_any h i hcl
  have hat := at_any h i (by omega)
  have HEND0 : Hid (RStp w w r q G S L) := RStp.refl h
  have HST := Lib.hid h
  have HS : Hid (∀ k, RStp w (w.drewN k) r q G S L) := fun k => (RStp.refl h).made (qdrew_below w k)
  obtain ⟨lv, cv, bv, lgv, hM, hG⟩ := h
  have hse := hM.sees
  obtain ⟨bao, bco, rfl⟩ := ownsRow_slice hM.blk
  obtain ⟨c0, c1, c2, c3, c4, f2, f3, f4, q0⟩ := hse
  by_cases hp : isPage S.disk.n i = true
  · have hm : S.may i = 0 := page_may.1 hp
    rw [hn] at hp
    rw [hp] at hpg
    cases hx : chgIx S.changed i with
    | some j =>
      obtain ⟨hj, hg⟩ := chgIx_some hok.srtc hx
      have e : S.pin i = (19, S) := by unfold Pgr.pin; rw [if_neg (by omega), hg]
      rw [e]
      rw [hx, show ixI (some j) = (j : Int) from rfl] at hch
      have HO := Lib.hid ho
      clear hat hM hG HST e hg hx ho hok hm HS hj
      generalize S.disk.blocks.length = M at *
      go_enter Tryz.func47, Tryz.ntmps47
      go_wp2_with (first
        | (go_at_call 70; refine hpg.mono ?_; rintro e w' ⟨rfl, rfl⟩)
        | (go_at_call 71; refine hch.mono ?_; rintro e w' ⟨rfl, rfl⟩))
      go_ret
      exact ⟨rfl, L, HO.out, HEND0.out⟩
    | none =>
      have hg := chgIx_none hx
      rw [hx, show ixI none = -1 from rfl] at hch
      cases hy : atIx L i with
      | some j =>
        obtain ⟨hj, hji, hgh⟩ := atIx_some ho hok hy
        have e : S.pin i = (0, S.use i { L[j].2 with pins := L[j].2.pins + 1 }) := by unfold Pgr.pin; rw [if_neg (by omega), hg]; simp only; rw [hgh]
        rw [e]
        rw [hy, show ixI (some j) = (j : Int) from rfl] at hat
        have hpins : 0 ≤ L[j].2.pins := (hok.held _ (get_mem hgh)).2.1
        have hmem := get_mem hgh
        have hpb : L[j].2.pins ≤ 1000000000000000000 := hpn (i, L[j].2) hmem
        have hus := quse_any HST.out j hj (i, { L[j].2 with used := S.clock + 1 }) hji.symm rfl rfl (by omega)
        have HO4 : Hid (Ord (S.use i { L[j].2 with pins := L[j].2.pins + 1 }) (L.eraseIdx j ++ [(i, { L[j].2 with pins := L[j].2.pins + 1, used := S.clock + 1 })])) := ho.use hok hj hji hgh _
        have HPN : Hid (∀ w2, RStp w w2 r q G S (L.eraseIdx j ++ [(i, { L[j].2 with used := S.clock + 1 })]) → ∃ g cap, w2.drew.cell? ⟨r, 2, none⟩ = some (.slice (some ⟨g, 0, none⟩) ((L.eraseIdx j).length + 1) cap) ∧ w2.drew.cell? ⟨g, (L.eraseIdx j).length * 3 + 1, none⟩ = some (.int .i64 L[j].2.pins) ∧ w2.drew.frozen? ⟨g, (L.eraseIdx j).length * 3 + 1, none⟩ = false ∧
            RStp w (w2.drew.setCell ⟨g, (L.eraseIdx j).length * 3 + 1, none⟩ (.int .i64 (L[j].2.pins + 1))) r q G (S.use i { L[j].2 with pins := L[j].2.pins + 1 }) (L.eraseIdx j ++ [(i, { L[j].2 with pins := L[j].2.pins + 1, used := S.clock + 1 })])) := fun w2 hst => by
          have hst' := hst.made ((Below.refl w2.heap.size w2).drew)
          obtain ⟨g, cap, h1, h2, h3, h4⟩ := hst'.at_.pins_last (L[j].2.pins + 1)
          exact ⟨g, cap, h1, h2, h3, (hst'.trans h4).as rfl rfl rfl rfl⟩
        have hK2 : (L.eraseIdx j).length ≤ 1024 := by rw [List.length_eraseIdx_of_lt hj]; omega
        clear hM hG HST e hg hx ho hok hm hgh hy hji hmem HS
        generalize S.use i { L[j].2 with pins := L[j].2.pins + 1 } = S2 at *
        obtain ⟨L4, hL4⟩ : ∃ L4, L.eraseIdx j ++ [(i, { L[j].2 with pins := L[j].2.pins + 1, used := S.clock + 1 })] = L4 := ⟨_, rfl⟩
        obtain ⟨L3, hL3⟩ : ∃ L3, L.eraseIdx j ++ [(i, { L[j].2 with used := S.clock + 1 })] = L3 := ⟨_, rfl⟩
        rw [hL4] at HO4 HPN
        rw [hL3] at hus HPN
        clear hL3 hL4
        generalize L[j].2.pins = pn at *
        generalize (L.eraseIdx j).length = K at *
        generalize S.disk.blocks.length = M at *
        clear hj
        go_enter Tryz.func47, Tryz.ntmps47
        go_upto_region 15 with (first
            | (go_at_call 70; refine hpg.mono ?_; rintro e w' ⟨rfl, rfl⟩)
            | (go_at_call 71; refine hch.mono ?_; rintro e w' ⟨rfl, rfl⟩)
            | (go_at_call 72; refine hat.mono ?_; rintro e w' ⟨rfl, rfl⟩))
        go_wp2_with fail
        refine hus.mono ?_
        rintro e w2 ⟨rfl, hst2⟩
        obtain ⟨g, cap, e2, t2, f2', hfin⟩ := HPN.out w2 hst2
        have HFIN := Lib.hid hfin
        clear hst2 HPN hus hfin
        go_upto_region 16 with fail
        go_region
        all_goals
          go_wp2
          go_ret
          exact ⟨rfl, L4, HO4.out, HFIN.out⟩
      | none =>
        have hgh := atIx_none ho hy
        rw [hy, show ixI none = -1 from rfl] at hat
        have hle := ho.len
        have hfull : S.full = decide (S.room ≤ (L.length : Int)) := by unfold Pgr.full; rw [hle]
        have HFR0 : Hid (∀ k, Calls Tryz.prog 77 #[.pointer (some ⟨r, 0, none⟩)] (w.drewN k) fun e w' => e = .returned (.int .i64 (ixI (freeIx L))) ∧ ∃ m, w' = w.drewN m) := fun k => (free_any ((HST.out).made (qdrew_below w k)) (by omega)).mono fun e w' ⟨a, b⟩ => ⟨a, k, b.symm⟩
        have d1 : ∀ k, (w.drewN k).cell? ⟨r, 1, none⟩ = some (.int .i64 S.room) := fun _ => c1
        have d0 : ∀ k, (w.drewN k).cell? ⟨r, 0, none⟩ = some (.pointer (some ⟨q, 0, none⟩)) := fun _ => c0
        have d4 : ∀ k, (w.drewN k).cell? ⟨r, 4, none⟩ = some (.int .i64 S.reads) := fun _ => c4
        have e4 : ∀ k, (w.drewN k).frozen? ⟨r, 4, none⟩ = false := fun _ => f4
        have HO := Lib.hid ho
        obtain ⟨lao, lco, rfl⟩ := ownsRow_slice hM.list
        have dd2 : ∀ k, (w.drewN k).cell? ⟨r, 2, none⟩ = some (.slice lao L.length lco) := fun _ => c2
        by_cases hff : S.room ≤ (L.length : Int) ∧ freeIx L = none
        · obtain ⟨hf, hfi⟩ := hff
          have e : S.pin i = (10, S) := by
            unfold Pgr.pin; rw [if_neg (by omega), hg]; simp only; rw [hgh]; simp only
            rw [if_pos (by rw [hfull, freeIx_none ho hfi]; simpa using hf)]
          rw [e]
          have HFR : Hid (∀ k, Calls Tryz.prog 77 #[.pointer (some ⟨r, 0, none⟩)] (w.drewN k) fun e w' => e = .returned (.int .i64 (-1)) ∧ ∃ m, w' = w.drewN m) := fun k => by
            have := HFR0.out k
            rwa [hfi] at this
          clear hM hG HST e hg hx ho hok hm hgh hy HFR0 hfi hle hfull
          generalize S.disk.blocks.length = M at *
          generalize L.length = K at *
          generalize S.room = rm at *
          go_enter Tryz.func47, Tryz.ntmps47
          go_upto_region 7 with (first
            | (go_at_call 70; refine hpg.mono ?_; rintro e w' ⟨rfl, rfl⟩)
            | (go_at_call 71; refine hch.mono ?_; rintro e w' ⟨rfl, rfl⟩)
            | (go_at_call 72; refine hat.mono ?_; rintro e w' ⟨rfl, rfl⟩))
          go_quiet (first | (go_at_call 77; exact HFR.out _))
          go_wp2
          go_ret
          exact ⟨rfl, L, HO.out, HS.out _⟩
        · have hpc : (S.full && (oldest S.held).isNone) = false := by
            rw [hfull]
            by_cases hf : S.room ≤ (L.length : Int)
            · cases hfi : freeIx L with
              | none => exact absurd ⟨hf, hfi⟩ hff
              | some j0 =>
                obtain ⟨_, h1, _⟩ := freeIx_some ho hok hfi
                rw [h1]; simp
            · simp [hf]
          have HRD : Hid (∀ k, Calls Tryz.prog 74 #[.pointer (some ⟨q, 0, none⟩), .int .i64 i] (w.drewN k) fun e w' => e = .returned (.tuple #[.string (S.disk.read i).1, .int .i64 (S.disk.read i).2]) ∧ w.drewN k = w') := fun k => qread_any (hM.qd.made (qdrew_below w k)) i
          have HFR : Hid (S.room ≤ (L.length : Int) → ∃ fr : Int, 0 ≤ fr ∧ ∀ k, Calls Tryz.prog 77 #[.pointer (some ⟨r, 0, none⟩)] (w.drewN k) fun e w' => e = .returned (.int .i64 fr) ∧ ∃ m, w' = w.drewN m) := fun hf => by
            cases hfi : freeIx L with
            | none => exact absurd ⟨hf, hfi⟩ hff
            | some j0 => exact ⟨(j0 : Int), by omega, fun k => by have := HFR0.out k; rwa [hfi] at this⟩
          by_cases hr0 : (S.disk.read i).2 = 0
          · have e : S.pin i = (0, (((S.read i).2.hold i (S.disk.read i).1)).use i ⟨(S.disk.read i).1, 1, 0⟩) := by
              unfold Pgr.pin; rw [if_neg (by omega), hg]; simp only; rw [hgh]; simp only; rw [hpc]; simp only [Bool.false_eq_true, if_false]; rw [if_neg (by omega)]
            rw [e]
            have e1 : (S.read i).2 = { S with reads := S.reads + 1 } := by unfold Pgr.read; simp only; rw [if_pos hr0]
            have hok1 : ({ S with reads := S.reads + 1 } : Pgr).Ok := { hok with reads := by show 0 ≤ S.reads + 1; have := hok.reads; omega }
            have ho1 : Ord ({ S with reads := S.reads + 1 } : Pgr) L := ⟨ho.perm, ho.srt⟩
            have hsz := read_size hok hr0
            rw [e1]
            generalize hS1 : ({ S with reads := S.reads + 1 } : Pgr) = S1 at *
            have hro : S1.room = S.room := by rw [← hS1]
            have hhe : S1.held = S.held := by rw [← hS1]
            have hcc : S1.changed = S.changed := by rw [← hS1]
            have hdd : S1.disk = S.disk := by rw [← hS1]
            generalize htx : (S.disk.read i).1 = tx at *
            obtain ⟨A, hA, hAl⟩ := rHold_last S1 L i tx (by rw [hro]; exact hff)
            have ho2 := ho1.hold hok1 (by rw [hhe]; exact hgh) tx
            have hok2 := hold_ok hok1 (i := i) (s := tx) (by rw [hhe]; exact hgh) (by rw [hcc]; exact hg) (by rw [hdd]; exact page_may.2 hm) hsz
            rw [hA] at ho2
            have hg2 : get i (S1.hold i tx).held = some ⟨tx, 0, S1.clock + 1⟩ := mem_get hok2.srt (ho2.perm.subset (by simp))
            have hst1 : ∀ k, RStp w ((w.drewN k).setCell ⟨r, 4, none⟩ (.int .i64 (S.reads + 1))) r q G S1 L := fun k => by
              have h1 := HS.out k
              have h2 := h1.at_.reads
              rw [hS1] at h2
              exact h1.trans h2
            have HHO : Hid (∀ k, Calls Tryz.prog 75 #[.pointer (some ⟨r, 0, none⟩), .int .i64 i, .string tx] ((w.drewN k).setCell ⟨r, 4, none⟩ (.int .i64 (S.reads + 1))) fun e w' => e = .returned (.tuple #[]) ∧ RStp w w' r q G (S1.hold i tx) (A ++ [(i, ⟨tx, 0, S1.clock + 1⟩)])) := fun k => by
              refine (qhold_any (hst1 k).at_ i tx (by omega)).mono ?_
              rintro e w' ⟨rfl, hst⟩
              obtain ⟨a1, a2, a3, a4⟩ := hold_as S1 i tx
              rw [hA] at hst
              exact ⟨rfl, ((hst1 k).trans hst).as a1 a2 a3 a4⟩
            have HL2 : Hid (∀ w1, RStp w w1 r q G (S1.hold i tx) (A ++ [(i, ⟨tx, 0, S1.clock + 1⟩)]) → ∃ la lc, w1.cell? ⟨r, 2, none⟩ = some (.slice la (A.length + 1) lc)) := fun w1 hst => by
              obtain ⟨lv1, cv1, bv1, lgv1, hM1, -⟩ := hst.at_
              obtain ⟨la, lc, rfl⟩ := ownsRow_slice hM1.list
              have := hM1.sees.c2
              rw [List.length_append, List.length_singleton] at this
              exact ⟨la, lc, this⟩
            obtain ⟨ck, hck⟩ : ∃ ck, (S1.hold i tx).clock = ck := ⟨_, rfl⟩
            have HUS : Hid (∀ w1, RStp w w1 r q G (S1.hold i tx) (A ++ [(i, ⟨tx, 0, S1.clock + 1⟩)]) → Calls Tryz.prog 73 #[.pointer (some ⟨r, 0, none⟩), .int .i64 (A.length : Int)] w1 fun e w' => e = .returned (.tuple #[]) ∧ RStp w w' r q G (S1.hold i tx) (A ++ [(i, ⟨tx, 0, ck + 1⟩)])) := fun w1 hst => by
              refine (quse_any hst.at_ A.length (by simp) (i, ⟨tx, 0, ck + 1⟩) (by simp) (by simp) (by simp) (by simp; omega)).mono ?_
              rintro e w' ⟨rfl, hst2⟩
              rw [eraseIdx_last] at hst2
              exact ⟨rfl, hst.trans hst2⟩
            have HPN : Hid (∀ w2, RStp w w2 r q G (S1.hold i tx) (A ++ [(i, ⟨tx, 0, ck + 1⟩)]) → ∃ g cap, w2.drew.cell? ⟨r, 2, none⟩ = some (.slice (some ⟨g, 0, none⟩) (A.length + 1) cap) ∧ w2.drew.cell? ⟨g, A.length * 3 + 1, none⟩ = some (.int .i64 0) ∧ w2.drew.frozen? ⟨g, A.length * 3 + 1, none⟩ = false ∧
                RStp w (w2.drew.setCell ⟨g, A.length * 3 + 1, none⟩ (.int .i64 1)) r q G ((S1.hold i tx).use i ⟨tx, 1, 0⟩) (A ++ [(i, ⟨tx, 1, ck + 1⟩)])) := fun w2 hst => by
              have hst' := hst.made ((Below.refl w2.heap.size w2).drew)
              obtain ⟨g, cap, h1, h2, h3, h4⟩ := hst'.at_.pins_last 1
              exact ⟨g, cap, h1, h2, h3, (hst'.trans h4).as rfl rfl rfl rfl⟩
            have HO4 : Hid (Ord ((S1.hold i tx).use i ⟨tx, 1, 0⟩) (A ++ [(i, ⟨tx, 1, ck + 1⟩)])) := by
              have := ho2.use hok2 (j := A.length) (i := i) (by simp) (by simp) (by simpa using hg2) ⟨tx, 1, 0⟩
              rw [eraseIdx_last, hck] at this
              exact this
            obtain ⟨L4, hL4⟩ : ∃ L4, A ++ [(i, ⟨tx, 1, ck + 1⟩)] = L4 := ⟨_, rfl⟩
            rw [hL4] at HPN HO4
            obtain ⟨L3, hL3⟩ : ∃ L3, A ++ [(i, ⟨tx, 0, ck + 1⟩)] = L3 := ⟨_, rfl⟩
            rw [hL3] at HPN HUS
            obtain ⟨L2, hL2⟩ : ∃ L2, A ++ [(i, ⟨tx, 0, S1.clock + 1⟩)] = L2 := ⟨_, rfl⟩
            rw [hL2] at HUS HHO HL2
            have hrd0 := hok.reads
            rw [hr0] at HRD
            clear hM hG HST e hg hx ho hok hm hgh hy HFR0 hle hfull hL4 hL3 hL2 hst1 hg2 hok2 ho2 hA ho1 hok1 hS1 hro hhe hcc hdd htx hsz e1 hck hr0 hpc hff
            generalize (S1.hold i tx).use i ⟨tx, 1, 0⟩ = S4 at *
            generalize S1.hold i tx = S2 at *
            generalize S.disk.blocks.length = M at *
            generalize A.length = K2 at *
            generalize L.length = K at *
            generalize S.room = rm at *
            generalize S.reads = rds at *
            by_cases hf : rm ≤ (K : Int)
            · obtain ⟨fr, hfr, hcf⟩ := HFR.out hf
              replace HFR := Lib.hid hcf
              clear hcf
              go_enter Tryz.func47, Tryz.ntmps47
              go_upto_region 7 with (first
                | (go_at_call 70; refine hpg.mono ?_; rintro e w' ⟨rfl, rfl⟩)
                | (go_at_call 71; refine hch.mono ?_; rintro e w' ⟨rfl, rfl⟩)
                | (go_at_call 72; refine hat.mono ?_; rintro e w' ⟨rfl, rfl⟩))
              go_quiet (first | (go_at_call 77; exact HFR.out _))
              go_wp2_with (go_at_call 74; refine (HRD.out _).mono ?_; rintro e w' ⟨rfl, rfl⟩)
              refine (HHO.out _).mono ?_
              rintro e w1 ⟨rfl, hst1⟩
              obtain ⟨la, lc, d2⟩ := HL2.out w1 hst1
              have hus := HUS.out w1 hst1
              clear hst1 HHO HRD HL2 HUS HFR
              go_wp2_with fail
              refine hus.mono ?_
              rintro e w2 ⟨rfl, hst2⟩
              obtain ⟨g, cap, e2, t2, f2', hfin⟩ := HPN.out w2 hst2
              have HFIN := Lib.hid hfin
              clear hst2 HPN hus hfin
              go_upto_region 16 with fail
              go_region
              all_goals
                go_wp2
                go_ret
                exact ⟨rfl, L4, HO4.out, HFIN.out⟩
            · have hf' : decide (rm ≤ (K : Int)) = false := by simpa using hf
              go_enter Tryz.func47, Tryz.ntmps47
              go_upto_region 7 with (first
                | (go_at_call 70; refine hpg.mono ?_; rintro e w' ⟨rfl, rfl⟩)
                | (go_at_call 71; refine hch.mono ?_; rintro e w' ⟨rfl, rfl⟩)
                | (go_at_call 72; refine hat.mono ?_; rintro e w' ⟨rfl, rfl⟩))
              go_quiet (fail)
              go_wp2_with (go_at_call 74; refine (HRD.out _).mono ?_; rintro e w' ⟨rfl, rfl⟩)
              refine (HHO.out _).mono ?_
              rintro e w1 ⟨rfl, hst1⟩
              obtain ⟨la, lc, d2⟩ := HL2.out w1 hst1
              have hus := HUS.out w1 hst1
              clear hst1 HHO HRD HL2 HUS HFR
              go_wp2_with fail
              refine hus.mono ?_
              rintro e w2 ⟨rfl, hst2⟩
              obtain ⟨g, cap, e2, t2, f2', hfin⟩ := HPN.out w2 hst2
              have HFIN := Lib.hid hfin
              clear hst2 HPN hus hfin
              go_upto_region 16 with fail
              go_region
              all_goals
                go_wp2
                go_ret
                exact ⟨rfl, L4, HO4.out, HFIN.out⟩
          · have e : S.pin i = ((S.disk.read i).2, S) := by
              unfold Pgr.pin; rw [if_neg (by omega), hg]; simp only; rw [hgh]; simp only; rw [hpc]; simp only [Bool.false_eq_true, if_false]; rw [if_pos hr0]
            rw [e]
            have hbr : ((S.disk.read i).2 != 0) = true := by simpa using hr0
            generalize (S.disk.read i).1 = tx at *
            generalize (S.disk.read i).2 = er at *
            clear hM hG HST e hg hx ho hok hm hgh hr0 hy HFR0 hle hfull hpc hff
            generalize S.disk.blocks.length = M at *
            generalize L.length = K at *
            generalize S.room = rm at *
            by_cases hf : rm ≤ (K : Int)
            · obtain ⟨fr, hfr, hcf⟩ := HFR.out hf
              replace HFR := Lib.hid hcf
              clear hcf
              go_enter Tryz.func47, Tryz.ntmps47
              go_upto_region 7 with (first
                | (go_at_call 70; refine hpg.mono ?_; rintro e w' ⟨rfl, rfl⟩)
                | (go_at_call 71; refine hch.mono ?_; rintro e w' ⟨rfl, rfl⟩)
                | (go_at_call 72; refine hat.mono ?_; rintro e w' ⟨rfl, rfl⟩))
              go_quiet (first | (go_at_call 77; exact HFR.out _))
              go_wp2_with (go_at_call 74; refine (HRD.out _).mono ?_; rintro e w' ⟨rfl, rfl⟩)
              go_ret
              exact ⟨rfl, L, HO.out, HS.out _⟩
            · have hf' : decide (rm ≤ (K : Int)) = false := by simpa using hf
              go_enter Tryz.func47, Tryz.ntmps47
              go_upto_region 7 with (first
                | (go_at_call 70; refine hpg.mono ?_; rintro e w' ⟨rfl, rfl⟩)
                | (go_at_call 71; refine hch.mono ?_; rintro e w' ⟨rfl, rfl⟩)
                | (go_at_call 72; refine hat.mono ?_; rintro e w' ⟨rfl, rfl⟩))
              go_quiet (fail)
              go_wp2_with (go_at_call 74; refine (HRD.out _).mono ?_; rintro e w' ⟨rfl, rfl⟩)
              go_ret
              exact ⟨rfl, L, HO.out, HS.out _⟩
  · have hm : S.may i ≠ 0 := fun e => hp (page_may.2 e)
    have e : S.pin i = (1, S) := by
      unfold Pgr.pin; rw [if_pos hm]
      unfold Pgr.may; rw [if_neg hp]
    rw [e]
    rw [hn] at hp
    rw [show isPage (S.disk.blocks.length : Int) i = false by simpa using hp] at hpg
    have HO := Lib.hid ho
    generalize S.disk.blocks.length = M at *
    clear hat hM hG HST e ho hok hm hp hch HS
    go_enter Tryz.func47, Tryz.ntmps47
    go_wp2_with (go_at_call 70; refine hpg.mono ?_; rintro e w' ⟨rfl, rfl⟩)
    go_ret
    exact ⟨rfl, L, HO.out, HEND0.out⟩
end
end Go.Proofs.YtdoankamaobkoaaGreat
