/- leaf.Cut. -/
import Derived.Test.YtmgcaohpbaiiaaaGreatDoorTName
set_option linter.unusedSimpArgs false
set_option linter.unusedVariables false
namespace Go.Proofs.YtmgcaohpbaiiaaaGreatDoor
open Go.RowKit Go.Maps Go.Shelf

def cutStep (l : List Ent) (st : Nat × Int) (i : Nat) : Nat × Int :=
  if st.2 < 0 ∨ max (lSum (l.take i) : Int) ((lSum l : Int) - lSum (l.take i)) < st.2 then (i, max (lSum (l.take i) : Int) ((lSum l : Int) - lSum (l.take i))) else st
def cutTo (l : List Ent) : Nat → Nat × Int
  | 0 => (1, -1)
  | k + 1 => cutStep l (cutTo l k) (k + 1)
/-- how many stand on the left side -/
def lCut (l : List Ent) : Nat := (cutTo l (l.length - 1)).1
theorem cutTo_bd (l : List Ent) : ∀ k, 1 ≤ (cutTo l k).1 ∧ (cutTo l k).1 ≤ max 1 k ∧ -1 ≤ (cutTo l k).2 ∧ (cutTo l k).2 ≤ lSum l
  | 0 => by simp [cutTo]
  | k + 1 => by
    obtain ⟨a, b, c, d⟩ := cutTo_bd l k
    have := lSum_take_le l (k + 1)
    unfold cutTo cutStep
    split <;> simp <;> omega
theorem lCut_bd {l : List Ent} (h : 2 ≤ l.length) : 1 ≤ lCut l ∧ lCut l < l.length := by
  have := cutTo_bd l (l.length - 1)
  unfold lCut
  omega
set_option maxHeartbeats 4000000 in
set_option maxRecDepth 100000 in
theorem lcut_any (w : World) (ao : Option Addr) (c : Nat) (l : List Ent) (hl : ERow w ao l) (hc : l.length ≤ c) (h2 : 2 ≤ l.length) (hn : lSum l ≤ 100000) :
    Calls Tryz.prog 89 #[.slice ao l.length c] w fun e w' => ∃ v1 v2, e = .returned (.tuple #[v1, v2]) ∧ EOwn w' w.heap.size v1 (l.take (lCut l)) ∧ EOwn w' w.heap.size v2 (l.drop (lCut l)) ∧ Below w.heap.size w w' := by
  obtain ⟨g, off, rfl, -, -⟩ := hl.at (i := 0) (by omega)
  have hll := lSum_len l
  obtain ⟨cb1, cb2⟩ := lCut_bd h2
  have HSZ : Hid (∀ W, Below w.heap.size w W → ∀ k (hk : k < l.length) cc, Calls Tryz.prog 87 #[.slice (some ⟨g, off + k * 2, none⟩) 1 cc] W fun e w' => e = .returned (.int .i64 ((lSum (l.take (k + 1)) - lSum (l.take k) + 2 : Nat) : Int)) ∧ Below w.heap.size w w') := fun W hB k hk cc => by
    have hr : ERow W (some ⟨g, off + k * 2, none⟩) [l[k]] := by
      have := ((hl.made hB).drop k).take 1
      rw [List.drop_eq_getElem_cons hk] at this
      exact this
    have hs := lSum_succ l hk
    have hle := lSum_take_le l (k + 1)
    have e : lSize [l[k]] = lSum (l.take (k + 1)) - lSum (l.take k) + 2 := by unfold lSize; simp [lSum] at hs ⊢; omega
    rw [← e]
    refine (lsize_any W _ cc [l[k]] hr (by rw [e]; omega)).mono ?_
    rintro e w' ⟨he, hB'⟩
    exact ⟨he, hB.trans (hB'.mono hB.size)⟩
  have HSA : Hid (∀ W, Below w.heap.size w W → Calls Tryz.prog 87 #[.slice (some ⟨g, off, none⟩) l.length c] W fun e w' => e = .returned (.int .i64 ((lSum l + 2 : Nat) : Int)) ∧ Below w.heap.size w w') := fun W hB => by
    have e : lSize l = lSum l + 2 := by unfold lSize; omega
    rw [← e]
    exact (lsize_any W _ c l (hl.made hB) (by omega)).mono fun _ _ ⟨a, b⟩ => ⟨a, hB.trans (b.mono hB.size)⟩
  have HC1 : Hid (∀ W, Below w.heap.size w W → Calls Tryz.prog 80 #[.slice (some ⟨g, off, none⟩) (lCut l) c] W fun e w' => ∃ v, e = .returned v ∧ EOwn w' w.heap.size v (l.take (lCut l)) ∧ Below w.heap.size w w') := fun W hB => by
    have := clone_any W (some ⟨g, off, none⟩) c (l.take (lCut l)) ((hl.made hB).take _) (fun a e => ⟨g, off, by simpa using e.symm⟩) (fun e => by cases e) (by rw [List.length_take]; omega)
    rw [List.length_take, Nat.min_eq_left (by omega)] at this
    exact this.mono fun e w' ⟨v, he, ho, hb⟩ => ⟨v, he, ho.base hB.size, hB.trans (hb.mono hB.size)⟩
  have HC2 : Hid (∀ W v1, Below w.heap.size w W → EOwn W w.heap.size v1 (l.take (lCut l)) → Calls Tryz.prog 80 #[.slice (some ⟨g, off + lCut l * 2, none⟩) (l.length - lCut l) (c - lCut l)] W fun e w' => ∃ v, e = .returned v ∧ EOwn w' w.heap.size v (l.drop (lCut l)) ∧ EOwn w' w.heap.size v1 (l.take (lCut l)) ∧ Below w.heap.size w w') := fun W v1 hB ho1 => by
    have := clone_any W (some ⟨g, off + lCut l * 2, none⟩) (c - lCut l) (l.drop (lCut l)) ((hl.made hB).drop _) (fun a e => ⟨g, off + lCut l * 2, by simpa using e.symm⟩) (fun e => by cases e) (by rw [List.length_drop]; omega)
    rw [List.length_drop] at this
    exact this.mono fun e w' ⟨v, he, ho, hb⟩ => ⟨v, he, ho.base hB.size, ho1.made hb, hB.trans (hb.mono hB.size)⟩
  have HST : Hid (∀ k, k + 1 < l.length → cutTo l (k + 1) = cutStep l (cutTo l k) (k + 1)) := fun k _ => rfl
  have HBD : Hid (∀ k, -1 ≤ (cutTo l k).2 ∧ (cutTo l k).2 ≤ lSum l ∧ (cutTo l k).1 ≤ max 1 k) := fun k => ⟨(cutTo_bd l k).2.2.1, (cutTo_bd l k).2.2.2, (cutTo_bd l k).2.1⟩
  have HMO : Hid (∀ k, k < l.length → lSum (l.take k) ≤ lSum (l.take (k + 1)) ∧ lSum (l.take (k + 1)) ≤ lSum l) := fun k hk => by
    have h1 := lSum_succ l hk
    have h2 := lSum_take_le l (k + 1)
    omega
  have H00 : Hid (lSum (l.take 0) = 0) := by show _ = _; simp [lSum]
  have HCT0 : Hid (cutTo l 0 = (1, -1)) := rfl
  have HLC : Hid ((cutTo l (l.length - 1)).1 = lCut l) := rfl
  clear hl
  unfold cutStep at HST
  obtain ⟨m, HM⟩ : ∃ m, Hid (l.length = m + 2) := ⟨l.length - 2, Lib.hid (by omega)⟩
  rw [HM.out] at h2 hll cb2 hc HSZ HSA HC2 HST HLC HMO ⊢
  generalize l.take (lCut l) = lt at *
  generalize l.drop (lCut l) = ld at *
  generalize lCut l = cut at *
  generalize lSum l = all at *
  generalize cutTo l = ct at *
  obtain ⟨sm, hsm⟩ : ∃ sm : Nat → Nat, ∀ k, lSum (l.take k) = sm k := ⟨_, fun _ => rfl⟩
  simp only [hsm] at HSZ HST HMO H00
  clear hsm HM h2
  go_enter Tryz.func89, Tryz.ntmps89
  go_wp2_with fail
  refine (HSA.out w (Below.refl _ _)).mono ?_
  rintro e w1 ⟨rfl, hB1⟩
  go_wp2_with fail
  go_loopw [4, 5, 6, 8] (fun vb vl vs vi wr => ∃ (k b s : Nat) (le : Int), vb = .int .i64 b ∧ vl = .int .i64 le ∧ vs = .int .i64 s ∧ vi = .int .i64 ((k : Int) + 1) ∧ k ≤ m + 1 ∧ Hid (ct k = (b, le)) ∧ Hid (sm k = s) ∧ Hid (Below w.heap.size w wr)) (fun _ _ _ vi _ => m + 3 - (intOf vi).toNat)
  case atStart => exact ⟨0, 1, 0, -1, rfl, rfl, rfl, rfl, by omega, HCT0, H00, hB1⟩
  case round =>
    obtain ⟨k, b, s, le, rfl, rfl, rfl, rfl, hk, HCT, HSM, HB⟩ := hrel
    by_cases hlt : k < m + 1
    · have hs := HSZ.out wr HB.out k (by omega) (c - k)
      obtain ⟨hm1, hm2⟩ := HMO.out k (by omega)
      have hst := HST.out k (by omega)
      obtain ⟨hb1, hb2, -⟩ := HBD.out k
      rw [HCT.out] at hst hb1 hb2
      rw [HSM.out] at hs hm1
      obtain ⟨d, hd⟩ : ∃ d, sm (k + 1) = s + d := ⟨sm (k + 1) - s, by omega⟩
      rw [hd] at hs hst hm2
      rw [show ((s + d - s + 2 : Nat) : Int) = (d : Int) + 2 by omega] at hs
      have HSM' := Lib.hid hd
      obtain ⟨M, hM⟩ : ∃ M : Int, max ((s : Int) + (d : Int)) ((all : Int) - ((s : Int) + (d : Int))) = M := ⟨_, rfl⟩
      push_cast at hst
      simp only [hM] at hst
      have HST' := Lib.hid hst
      have hMb : 0 ≤ M ∧ M ≤ 100000 := by omega
      clear hst hd hm1 HSZ HSA HC1 HC2 HST HMO H00 HLC HCT HSM HCT0 HBD
      simp only at hb1 hb2
      have e1 : ¬ c = k := by omega
      have e2 : k + 1 ≤ c := by omega
      have e3 : (k : Int) + 1 ≤ (c : Int) := by omega
      have e4 : (k : Int) + 1 < (m : Int) + 2 := by omega
      by_cases hl0 : le < 0
      · have HR : Hid (ct (k + 1) = (k + 1, M)) := by
          show _ = _
          rw [HST'.out, if_pos (.inl hl0)]
        go_wp2_with (go_at_call 87; refine hs.mono ?_; rintro e w2 ⟨rfl, hB2⟩)
        go_roundw
        case rel => exact ⟨k + 1, k + 1, s + d, M, by go_num, rfl, by go_num, by go_num, by omega, HR, HSM', hB2⟩
        case measure => simp [intOf]; omega
      · by_cases hml : M < le
        · have HR : Hid (ct (k + 1) = (k + 1, M)) := by
            show _ = _
            rw [HST'.out, if_pos (.inr hml)]
          go_wp2_with (go_at_call 87; refine hs.mono ?_; rintro e w2 ⟨rfl, hB2⟩)
          go_roundw
          case rel => exact ⟨k + 1, k + 1, s + d, M, by go_num, rfl, by go_num, by go_num, by omega, HR, HSM', hB2⟩
          case measure => simp [intOf]; omega
        · have HR : Hid (ct (k + 1) = (b, le)) := by
            show _ = _
            rw [HST'.out, if_neg (by omega)]
          go_wp2_with (go_at_call 87; refine hs.mono ?_; rintro e w2 ⟨rfl, hB2⟩)
          go_roundw
          case rel => exact ⟨k + 1, b, s + d, le, rfl, rfl, by go_num, by go_num, by omega, HR, HSM', hB2⟩
          case measure => simp [intOf]; omega
    · obtain rfl : k = m + 1 := by omega
      have hbc : b = cut := by
        have h1 := HLC.out
        have h2 := HCT.out
        rw [show m + 2 - 1 = m + 1 by omega, h2] at h1
        exact h1
      subst hbc
      have HBW := Lib.hid (HB.out.drew)
      have hc1 := HC1.out _ HBW.out
      clear HSZ HSA HC1 HST HMO H00 HLC HCT HSM HCT0 HBD HB
      have e1 : ¬ c = b := by omega
      have e2 : b ≤ c := by omega
      have e3 : b ≤ m + 2 := by omega
      have e5 : (b : Int) ≤ (m : Int) + 2 := by omega
      have e4 : ¬ ((m : Int) + 1 + 1 < (m : Int) + 2) := by omega
      go_upto_region 12 with fail
      go_region_law (first
        | (go_simp; go_at_call 80; refine hc2.mono ?_; rintro e w4 ⟨v2, rfl, ho2, ho1', hB4⟩)
        | (go_simp; go_at_call 80; refine hc1.mono ?_; rintro e w3 ⟨v1, rfl, ho1, hB3⟩
           have hc2 := HC2.out w3 v1 hB3 ho1))
      all_goals
        go_wp2
        go_ret2
        exact ⟨_, _, rfl, ho1', ho2, hB4⟩
end Go.Proofs.YtmgcaohpbaiiaaaGreatDoor
