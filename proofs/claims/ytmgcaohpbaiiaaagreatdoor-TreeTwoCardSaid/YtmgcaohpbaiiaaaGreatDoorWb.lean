/- TreeTwo: the walk. -/
import Derived.Test.YtmgcaohpbaiiaaaGreatDoorWa
import Derived.Deep.RegionHeld3
set_option linter.unusedSimpArgs false
set_option linter.unusedVariables false
namespace Go.Proofs.YtmgcaohpbaiiaaaGreatDoor
open Go.RowKit Go.Maps Go.Shelf

set_option maxHeartbeats 8000000 in
set_option maxRecDepth 100000 in
theorem ttwo_walk (ap : Option Addr) (len cap : Nat) (aq : Option Addr) (leq caq : Nat) (w : World) (hg : Glob w) (hrow : RowActs w ap len) (hroq : RowActs w aq leq) (hl : len < 140737488355328) (hlq : leq < 140737488355328) :
    Calls Tryz.prog 7 #[.slice ap len cap, .slice aq leq caq] w fun e w' => e = .returned (.bool true) ∧ Below w.heap.size w w' := by
  have HROW := Lib.hid hrow
  have HROQ := Lib.hid hroq
  have HW := Lib.hid (twakes_any w hg)
  have HR : Hid (∀ w1, Below w.heap.size w w1 → Calls Tryz.prog 9 #[.int .i64 2048] w1 fun e w' => ∃ s d F V, e = .returned (.pointer (some ⟨s, 0, none⟩)) ∧ SIn w w' s d F 2048 V V 5000 ∧ (∀ b, F b → b < w'.heap.size) ∧ Shows 2048 V TS0) := fun w1 hB => room_any (w0 := w) (w := w1) 2048 (by omega) (by omega) hB hg
  clear hrow hroq hg
  go_enter Tryz.func7, Tryz.ntmps7
  go_wp2_with fail
  refine HW.out.mono ?_
  rintro e w1 ⟨rfl, hB⟩
  have hr := HR.out w1 hB
  clear hB HW HR
  go_wp2_with fail
  refine hr.mono ?_
  rintro e w2 ⟨s, d, F2, V2, rfl, hS, hF, hV⟩
  have HS := Lib.hid hS
  obtain ⟨S1, one, hnew, hT, hE⟩ := new_tree (f := (jFirst 2048).toNat) (S := TS0) (m := spMany 2048) (by rw [cnt0, many2048]; omega)
  have hcc : cntM (spMany 2048) S1 = 1 := by
    have := hE.cnt
    rw [cnt0] at this
    simpa using this
  obtain ⟨S2, two, hnew2, hT2, hE2⟩ := new_tree (f := (jFirst 2048).toNat) (S := S1) (m := spMany 2048) (by rw [hcc, many2048]; omega)
  have hN := tnew_any hS hF hV one hnew (by omega)
  obtain ⟨q1, q2⟩ := hT.frame hE2 (fun x hx => by simp)
  have HQ : Hid (one ≠ two ∧ TreeL (jFirst 2048).toNat (spMany 2048) S2 one [] [one] 0 ∧ TreeL (jFirst 2048).toNat (spMany 2048) S2 two [] [two] 0 ∧ cntM (spMany 2048) S2 = 2) := by
    refine ⟨fun e => q2 one (by simp) (by simp [e]), q1, hT2, ?_⟩
    have := hE2.cnt
    simp at this
    omega
  have HN2 : Hid (∀ w3 F3 V3, TSt w w2 w3 s d F2 F3 2048 V3 V2 5008 → Shows 2048 V3 S1 → Calls Tryz.prog 10 #[.pointer (some ⟨s, 0, none⟩)] w3 fun e w' => ∃ F' V', e = .returned (.tuple #[.int .i64 two, .int .i64 0]) ∧ TSt w w3 w' s d F3 F' 2048 V' V2 5016 ∧ Shows 2048 V' S2) := fun w3 F3 V3 h1 h2 => tnew_any h1.sin h1.lt h2 two hnew2 (by omega)
  clear hcc hE2 hT2 hnew2 q1 q2
  clear hS hF hV hT hE hnew hr
  have zw : wrap64 ((len : Int) + (leq : Int)) = (len : Int) + (leq : Int) := IntWalk.wrap64_in _ (by omega)
  by_cases hbig : 200 < len + leq
  · have zb : (200 : Int) < (len : Int) + (leq : Int) := by omega
    clear hN HN2 HQ
    go_wp2
    go_ret
    exact ⟨rfl, HS.out.below⟩
  · have zb : ¬ (200 : Int) < (len : Int) + (leq : Int) := by omega
    go_wp2_with fail
    refine hN.mono ?_
    rintro e w3 ⟨F3, V3, rfl, hst, hV3⟩
    have hN2 := HN2.out w3 F3 V3 hst hV3
    clear hN HN2 hst hV3
    go_wp2_with fail
    refine hN2.mono ?_
    rintro e w4 ⟨F4, V4, rfl, hst, hV4⟩
    have HP0 : Hid (TwoAt w w4 s d V2 one two w4.heap.size none 0 [] none 0 [] (min 0 len) (min 0 leq) (6000 + 16000 * ((0 : Nat) : Int))) := by
      obtain ⟨z1, z2, z3, z4⟩ := HQ.out
      refine ⟨F4, V4, S2, [one], [two], ⟨hst.sin.mono (by omega), hst.lt, hV4, by simpa using z2, by simpa using z3, fun x hx => ?_, by simpa using z4⟩, ⟨EOwn.nil _ _, fun b hb => by simp [Value.ownBlock] at hb⟩, ⟨EOwn.nil _ _, fun b hb => by simp [Value.ownBlock] at hb⟩⟩
      simp only [List.mem_singleton] at hx ⊢
      omega
    have z12 : ¬ ((one : Int) = (two : Int)) := by have := HQ.out.1; omega
    have z12b : ((one : Int) == (two : Int)) = false := by simpa using z12
    clear hN2 hst hV4 HS HQ
    go_wp2
    go_loopw [10, 11, 12] (fun u v x wr => ∃ (k : Nat) (a1 : Option Addr) (c1 : Nat) (l1 : List Ent) (a2 : Option Addr) (c2 : Nat) (l2 : List Ent), u = .slice a1 l1.length c1 ∧ v = .slice a2 l2.length c2 ∧ x = .int .i64 k ∧ (k ≤ len ∨ k ≤ leq) ∧ Hid (TwoAt w wr s d V2 one two w4.heap.size a1 c1 l1 a2 c2 l2 (min k len) (min k leq) (6000 + 16000 * (k : Int))) ∧ w4.heap.size ≤ wr.heap.size) (fun _ _ x _ => len + leq - (intOf x).toNat)
    case atStart => exact ⟨0, none, 0, [], none, 0, [], rfl, rfl, rfl, .inl (Nat.zero_le _), HP0, Nat.le_refl _⟩
    case round =>
      obtain ⟨k, a1, c1, l1, a2, c2, l2, rfl, rfl, rfl, hk, HP, hsz⟩ := hrel
      clear HP0
      by_cases h1 : k < len
      · have z1 : (k : Int) < (len : Int) := by omega
        by_cases h2 : k < leq
        · have z2 : (k : Int) < (leq : Int) := by omega
          have e1 : min (k + 1) len = min k len + 1 := by omega
          have e2 : min (k + 1) leq = min k leq + 1 := by omega
          obtain ⟨b1, off1, kk1, nn1, key1, value1, rfl, hbl, hc0, hw0, hc1, hc2, hc3⟩ := HROW.out k h1
          have HCE1 : Hid (∀ W, Below w.heap.size w W → W.cell? ⟨b1, off1 + k * 4, none⟩ = some (.int .i64 kk1) ∧ W.cell? ⟨b1, off1 + k * 4 + 1, none⟩ = some (.string key1) ∧ W.cell? ⟨b1, off1 + k * 4 + 2, none⟩ = some (.string value1) ∧ W.cell? ⟨b1, off1 + k * 4 + 3, none⟩ = some (.int .i64 nn1)) := fun W hB => ⟨(hB.cell (p := ⟨b1, off1 + k * 4, none⟩) hbl).trans hc0, (hB.cell (p := ⟨b1, off1 + k * 4 + 1, none⟩) hbl).trans hc1, (hB.cell (p := ⟨b1, off1 + k * 4 + 2, none⟩) hbl).trans hc2, (hB.cell (p := ⟨b1, off1 + k * 4 + 3, none⟩) hbl).trans hc3⟩
          have HLN1 := Lib.hid (HP.out.len.1)
          have HDO1 : Hid (∀ W1 t, Below wr.heap.size wr W1 → W1.heap[t]? = some (treeO s one) → wr.heap.size ≤ t → Calls Tryz.prog 12 #[.pointer (some ⟨t, 0, none⟩), .slice a1 l1.length c1, .agg #[.int .i64 kk1, .string key1, .string value1, .int .i64 nn1]] W1 fun e w' => ∃ a3 c3 m3, e = .returned (.tuple #[.slice a3 m3 c3, .bool true]) ∧ Hid (∃ l3 : List Ent, l3.length = m3 ∧ TwoAt w w' s d V2 one two w4.heap.size a3 c3 l3 a2 c2 l2 (min k len + 1) (min k leq) (6000 + 16000 * (k : Int) + 8000)) ∧ W1.heap.size ≤ w'.heap.size) := fun W1 t hB ht hle => by
            refine (HP.out.does (by omega) (by omega) (by omega) W1 hB t ht hle kk1 nn1 key1 value1 hw0).mono ?_
            rintro e w' ⟨a3, c3, he, h1', h2'⟩
            exact ⟨a3, c3, _, he, ⟨_, rfl, by exact (h1').mono (by push_cast; omega)⟩, h2'⟩
          have hat1 := at_any (s := s) one wr.drew
          have HBX1 := Lib.hid HP.out.below
          obtain ⟨g0, g1, g2, g3⟩ := HCE1.out wr.drew HBX1.out.drew
          clear hbl hc0 hc1 hc2 hc3 hw0
          go_upto_region 16 with fail
          go_region_held3 (fun w' => w'.cell? ⟨b1, off1 + k * 4, none⟩ = some (.int .i64 kk1) ∧ w'.cell? ⟨b1, off1 + k * 4 + 1, none⟩ = some (.string key1) ∧ w'.cell? ⟨b1, off1 + k * 4 + 2, none⟩ = some (.string value1) ∧ w'.cell? ⟨b1, off1 + k * 4 + 3, none⟩ = some (.int .i64 nn1)) (go_keep) (first
            | (go_at_call 12; refine hdo1.mono ?_; rintro e w5 ⟨a3, c3, m3, rfl, HQ1, hsz1⟩
               have HBw5 : Hid (Below w.heap.size w w5) := by
                 obtain ⟨l3, -, hh⟩ := HQ1.out
                 exact hh.below
               obtain ⟨q0, q1, q2, q3⟩ := HCE1.out w5 HBw5.out)
            | (go_at_call 11; refine hat1.mono ?_; rintro e v1 ⟨rfl, hv1⟩
               have hBv1 : Below wr.heap.size wr v1 := by rw [hv1]; exact (Below.refl _ _).drew.alloc (Nat.le_refl _) _
               have hdo1 := HDO1.out v1 wr.heap.size hBv1 (by rw [hv1]; exact heap_alloc_new' wr.drew _) (Nat.le_refl _)
               obtain ⟨p0, p1, p2, p3⟩ := HCE1.out v1 (HBX1.out.trans (hBv1.mono HBX1.out.size))
               have hszv1 := hBv1.size
               clear hv1 hBv1))
          all_goals
            obtain ⟨l4, hl4, hP4⟩ := HQ1.out
            subst hl4
            have HP4 := Lib.hid hP4
            have hsz4 : w4.heap.size ≤ w5.heap.size := by omega
            clear hP4 HQ1
            obtain ⟨b2, off2, kk2, nn2, key2, value2, rfl, hbl, hc0, hw0, hc1, hc2, hc3⟩ := HROQ.out k h2
            have HCE2 : Hid (∀ W, Below w.heap.size w W → W.cell? ⟨b2, off2 + k * 4, none⟩ = some (.int .i64 kk2) ∧ W.cell? ⟨b2, off2 + k * 4 + 1, none⟩ = some (.string key2) ∧ W.cell? ⟨b2, off2 + k * 4 + 2, none⟩ = some (.string value2) ∧ W.cell? ⟨b2, off2 + k * 4 + 3, none⟩ = some (.int .i64 nn2)) := fun W hB => ⟨(hB.cell (p := ⟨b2, off2 + k * 4, none⟩) hbl).trans hc0, (hB.cell (p := ⟨b2, off2 + k * 4 + 1, none⟩) hbl).trans hc1, (hB.cell (p := ⟨b2, off2 + k * 4 + 2, none⟩) hbl).trans hc2, (hB.cell (p := ⟨b2, off2 + k * 4 + 3, none⟩) hbl).trans hc3⟩
            have HLN2 := Lib.hid (HP4.out.swap.len.1)
            have HDO2 : Hid (∀ W1 t, Below w5.heap.size w5 W1 → W1.heap[t]? = some (treeO s two) → w5.heap.size ≤ t → Calls Tryz.prog 12 #[.pointer (some ⟨t, 0, none⟩), .slice a2 l2.length c2, .agg #[.int .i64 kk2, .string key2, .string value2, .int .i64 nn2]] W1 fun e w' => ∃ a5 c5 m5, e = .returned (.tuple #[.slice a5 m5 c5, .bool true]) ∧ Hid (∃ l3 : List Ent, l3.length = m5 ∧ TwoAt w w' s d V2 one two w4.heap.size a3 c3 l4 a5 c5 l3 (min (k + 1) len) (min (k + 1) leq) (6000 + 16000 * ((k + 1 : Nat) : Int))) ∧ W1.heap.size ≤ w'.heap.size) := fun W1 t hB ht hle => by
              refine (HP4.out.swap.does (by omega) (by omega) (by omega) W1 hB t ht hle kk2 nn2 key2 value2 hw0).mono ?_
              rintro e w' ⟨a5, c5, he, h1', h2'⟩
              exact ⟨a5, c5, _, he, ⟨_, rfl, by rw [e1, e2]; exact (h1'.swap).mono (by push_cast; omega)⟩, h2'⟩
            have hat2 := at_any (s := s) two w5.drew
            have HBX2 := Lib.hid HP4.out.below
            obtain ⟨g0, g1, g2, g3⟩ := HCE2.out w5.drew HBX2.out.drew
            clear hbl hc0 hc1 hc2 hc3 hw0
            go_upto_region 19 with fail
            go_region_held3 (fun w' => w'.cell? ⟨b2, off2 + k * 4, none⟩ = some (.int .i64 kk2) ∧ w'.cell? ⟨b2, off2 + k * 4 + 1, none⟩ = some (.string key2) ∧ w'.cell? ⟨b2, off2 + k * 4 + 2, none⟩ = some (.string value2) ∧ w'.cell? ⟨b2, off2 + k * 4 + 3, none⟩ = some (.int .i64 nn2)) (go_keep) (first
              | (go_at_call 12; refine hdo2.mono ?_; rintro e w6 ⟨a5, c5, m5, rfl, HQ, hsz2⟩
                 have HBw6 : Hid (Below w.heap.size w w6) := by
                   obtain ⟨l3, -, hh⟩ := HQ.out
                   exact hh.below
                 obtain ⟨q0, q1, q2, q3⟩ := HCE2.out w6 HBw6.out)
              | (go_at_call 11; refine hat2.mono ?_; rintro e v2 ⟨rfl, hv2⟩
                 have hBv2 : Below w5.heap.size w5 v2 := by rw [hv2]; exact (Below.refl _ _).drew.alloc (Nat.le_refl _) _
                 have hdo2 := HDO2.out v2 w5.heap.size hBv2 (by rw [hv2]; exact heap_alloc_new' w5.drew _) (Nat.le_refl _)
                 obtain ⟨p0, p1, p2, p3⟩ := HCE2.out v2 (HBX2.out.trans (hBv2.mono HBX2.out.size))
                 have hszv2 := hBv2.size
                 clear hv2 hBv2))
            all_goals
              obtain ⟨l3, hl3, hP3⟩ := HQ.out
              subst hl3
              have HP3 := Lib.hid hP3
              clear hP3 HQ
              go_wp2
              go_roundw
              case rel =>
                exact ⟨k + 1, _, _, _, _, _, _, rfl, rfl, by go_num, by omega, HP3, by omega⟩
              case measure => simp [intOf]; omega
        · have z2 : ¬ (k : Int) < (leq : Int) := by omega
          have e1 : min (k + 1) len = min k len + 1 := by omega
          have e2 : min (k + 1) leq = min k leq + 0 := by omega
          obtain ⟨b1, off1, kk1, nn1, key1, value1, rfl, hbl, hc0, hw0, hc1, hc2, hc3⟩ := HROW.out k h1
          have HCE1 : Hid (∀ W, Below w.heap.size w W → W.cell? ⟨b1, off1 + k * 4, none⟩ = some (.int .i64 kk1) ∧ W.cell? ⟨b1, off1 + k * 4 + 1, none⟩ = some (.string key1) ∧ W.cell? ⟨b1, off1 + k * 4 + 2, none⟩ = some (.string value1) ∧ W.cell? ⟨b1, off1 + k * 4 + 3, none⟩ = some (.int .i64 nn1)) := fun W hB => ⟨(hB.cell (p := ⟨b1, off1 + k * 4, none⟩) hbl).trans hc0, (hB.cell (p := ⟨b1, off1 + k * 4 + 1, none⟩) hbl).trans hc1, (hB.cell (p := ⟨b1, off1 + k * 4 + 2, none⟩) hbl).trans hc2, (hB.cell (p := ⟨b1, off1 + k * 4 + 3, none⟩) hbl).trans hc3⟩
          have HLN1 := Lib.hid (HP.out.len.1)
          have HDO1 : Hid (∀ W1 t, Below wr.heap.size wr W1 → W1.heap[t]? = some (treeO s one) → wr.heap.size ≤ t → Calls Tryz.prog 12 #[.pointer (some ⟨t, 0, none⟩), .slice a1 l1.length c1, .agg #[.int .i64 kk1, .string key1, .string value1, .int .i64 nn1]] W1 fun e w' => ∃ a3 c3 m3, e = .returned (.tuple #[.slice a3 m3 c3, .bool true]) ∧ Hid (∃ l3 : List Ent, l3.length = m3 ∧ TwoAt w w' s d V2 one two w4.heap.size a3 c3 l3 a2 c2 l2 (min (k + 1) len) (min (k + 1) leq) (6000 + 16000 * ((k + 1 : Nat) : Int))) ∧ W1.heap.size ≤ w'.heap.size) := fun W1 t hB ht hle => by
            refine (HP.out.does (by omega) (by omega) (by omega) W1 hB t ht hle kk1 nn1 key1 value1 hw0).mono ?_
            rintro e w' ⟨a3, c3, he, h1', h2'⟩
            exact ⟨a3, c3, _, he, ⟨_, rfl, by rw [e1, e2]; exact (h1').mono (by push_cast; omega)⟩, h2'⟩
          have hat1 := at_any (s := s) one wr.drew
          have HBX1 := Lib.hid HP.out.below
          obtain ⟨g0, g1, g2, g3⟩ := HCE1.out wr.drew HBX1.out.drew
          clear hbl hc0 hc1 hc2 hc3 hw0
          go_upto_region 16 with fail
          go_region_held3 (fun w' => w'.cell? ⟨b1, off1 + k * 4, none⟩ = some (.int .i64 kk1) ∧ w'.cell? ⟨b1, off1 + k * 4 + 1, none⟩ = some (.string key1) ∧ w'.cell? ⟨b1, off1 + k * 4 + 2, none⟩ = some (.string value1) ∧ w'.cell? ⟨b1, off1 + k * 4 + 3, none⟩ = some (.int .i64 nn1)) (go_keep) (first
            | (go_at_call 12; refine hdo1.mono ?_; rintro e w5 ⟨a3, c3, m3, rfl, HQ, hsz1⟩
               have HBw5 : Hid (Below w.heap.size w w5) := by
                 obtain ⟨l3, -, hh⟩ := HQ.out
                 exact hh.below
               obtain ⟨q0, q1, q2, q3⟩ := HCE1.out w5 HBw5.out)
            | (go_at_call 11; refine hat1.mono ?_; rintro e v1 ⟨rfl, hv1⟩
               have hBv1 : Below wr.heap.size wr v1 := by rw [hv1]; exact (Below.refl _ _).drew.alloc (Nat.le_refl _) _
               have hdo1 := HDO1.out v1 wr.heap.size hBv1 (by rw [hv1]; exact heap_alloc_new' wr.drew _) (Nat.le_refl _)
               obtain ⟨p0, p1, p2, p3⟩ := HCE1.out v1 (HBX1.out.trans (hBv1.mono HBX1.out.size))
               have hszv1 := hBv1.size
               clear hv1 hBv1))
          all_goals
            obtain ⟨l3, hl3, hP3⟩ := HQ.out
            subst hl3
            have HP3 := Lib.hid hP3
            clear hP3 HQ
            go_wp2
            go_roundw
            case rel =>
              exact ⟨k + 1, _, _, _, _, _, _, rfl, rfl, by go_num, by omega, HP3, by omega⟩
            case measure => simp [intOf]; omega
      · have z1 : ¬ (k : Int) < (len : Int) := by omega
        by_cases h2 : k < leq
        · have z2 : (k : Int) < (leq : Int) := by omega
          have e1 : min (k + 1) len = min k len + 0 := by omega
          have e2 : min (k + 1) leq = min k leq + 1 := by omega
          obtain ⟨b2, off2, kk2, nn2, key2, value2, rfl, hbl, hc0, hw0, hc1, hc2, hc3⟩ := HROQ.out k h2
          have HCE2 : Hid (∀ W, Below w.heap.size w W → W.cell? ⟨b2, off2 + k * 4, none⟩ = some (.int .i64 kk2) ∧ W.cell? ⟨b2, off2 + k * 4 + 1, none⟩ = some (.string key2) ∧ W.cell? ⟨b2, off2 + k * 4 + 2, none⟩ = some (.string value2) ∧ W.cell? ⟨b2, off2 + k * 4 + 3, none⟩ = some (.int .i64 nn2)) := fun W hB => ⟨(hB.cell (p := ⟨b2, off2 + k * 4, none⟩) hbl).trans hc0, (hB.cell (p := ⟨b2, off2 + k * 4 + 1, none⟩) hbl).trans hc1, (hB.cell (p := ⟨b2, off2 + k * 4 + 2, none⟩) hbl).trans hc2, (hB.cell (p := ⟨b2, off2 + k * 4 + 3, none⟩) hbl).trans hc3⟩
          have HLN2 := Lib.hid (HP.out.swap.len.1)
          have HDO2 : Hid (∀ W1 t, Below wr.heap.size wr W1 → W1.heap[t]? = some (treeO s two) → wr.heap.size ≤ t → Calls Tryz.prog 12 #[.pointer (some ⟨t, 0, none⟩), .slice a2 l2.length c2, .agg #[.int .i64 kk2, .string key2, .string value2, .int .i64 nn2]] W1 fun e w' => ∃ a3 c3 m3, e = .returned (.tuple #[.slice a3 m3 c3, .bool true]) ∧ Hid (∃ l3 : List Ent, l3.length = m3 ∧ TwoAt w w' s d V2 one two w4.heap.size a1 c1 l1 a3 c3 l3 (min (k + 1) len) (min (k + 1) leq) (6000 + 16000 * ((k + 1 : Nat) : Int))) ∧ W1.heap.size ≤ w'.heap.size) := fun W1 t hB ht hle => by
            refine (HP.out.swap.does (by omega) (by omega) (by omega) W1 hB t ht hle kk2 nn2 key2 value2 hw0).mono ?_
            rintro e w' ⟨a3, c3, he, h1', h2'⟩
            exact ⟨a3, c3, _, he, ⟨_, rfl, by rw [e1, e2]; exact (h1'.swap).mono (by push_cast; omega)⟩, h2'⟩
          have hat2 := at_any (s := s) two wr.drew
          have HBX2 := Lib.hid HP.out.below
          obtain ⟨g0, g1, g2, g3⟩ := HCE2.out wr.drew HBX2.out.drew
          clear hbl hc0 hc1 hc2 hc3 hw0
          go_upto_region 19 with fail
          go_region_held3 (fun w' => w'.cell? ⟨b2, off2 + k * 4, none⟩ = some (.int .i64 kk2) ∧ w'.cell? ⟨b2, off2 + k * 4 + 1, none⟩ = some (.string key2) ∧ w'.cell? ⟨b2, off2 + k * 4 + 2, none⟩ = some (.string value2) ∧ w'.cell? ⟨b2, off2 + k * 4 + 3, none⟩ = some (.int .i64 nn2)) (go_keep) (first
            | (go_at_call 12; refine hdo2.mono ?_; rintro e w5 ⟨a3, c3, m3, rfl, HQ, hsz2⟩
               have HBw5 : Hid (Below w.heap.size w w5) := by
                 obtain ⟨l3, -, hh⟩ := HQ.out
                 exact hh.below
               obtain ⟨q0, q1, q2, q3⟩ := HCE2.out w5 HBw5.out)
            | (go_at_call 11; refine hat2.mono ?_; rintro e v2 ⟨rfl, hv2⟩
               have hBv2 : Below wr.heap.size wr v2 := by rw [hv2]; exact (Below.refl _ _).drew.alloc (Nat.le_refl _) _
               have hdo2 := HDO2.out v2 wr.heap.size hBv2 (by rw [hv2]; exact heap_alloc_new' wr.drew _) (Nat.le_refl _)
               obtain ⟨p0, p1, p2, p3⟩ := HCE2.out v2 (HBX2.out.trans (hBv2.mono HBX2.out.size))
               have hszv2 := hBv2.size
               clear hv2 hBv2))
          all_goals
            obtain ⟨l3, hl3, hP3⟩ := HQ.out
            subst hl3
            have HP3 := Lib.hid hP3
            clear hP3 HQ
            go_wp2
            go_roundw
            case rel =>
              exact ⟨k + 1, _, _, _, _, _, _, rfl, rfl, by go_num, by omega, HP3, by omega⟩
            case measure => simp [intOf]; omega
        · have z2 : ¬ (k : Int) < (leq : Int) := by omega
          have hlast := HP.out.last (by omega) (by omega)
          clear HP HROW HROQ
          go_wp2_with fail
          refine hlast.mono ?_
          rintro e w5 ⟨d1, p1, a3, c3, a4, c4, rfl, hl2⟩
          clear hlast
          go_wp2_with fail
          refine hl2.mono ?_
          rintro e w6 ⟨d2, p2, a5, c5, a6, c6, rfl, hp12, HEND⟩
          clear hl2
          have hend := HEND.out (.cells #[.slice a3 l1.length c3, .slice a4 p1 c4, .int .i64 (d1 + 1), .bool true] 50 (0, 0)) (.cells #[.slice a5 l2.length c5, .slice a6 p2 c6, .int .i64 (d2 + 1), .bool true] 50 (0, 0))
          unfold TwoEnd at hend
          have hBW : Below w6.heap.size w6 ((w6.alloc (.cells #[.slice a3 l1.length c3, .slice a4 p1 c4, .int .i64 (d1 + 1), .bool true] 50 (0, 0))).alloc (.cells #[.slice a5 l2.length c5, .slice a6 p2 c6, .int .i64 (d2 + 1), .bool true] 50 (0, 0))) := ((Below.refl _ w6).alloc (Nat.le_refl _) _).alloc (by simp) _
          have hx1 : ((w6.alloc (.cells #[.slice a3 l1.length c3, .slice a4 p1 c4, .int .i64 (d1 + 1), .bool true] 50 (0, 0))).alloc (.cells #[.slice a5 l2.length c5, .slice a6 p2 c6, .int .i64 (d2 + 1), .bool true] 50 (0, 0))).heap[w6.heap.size]? = some (.cells #[.slice a3 l1.length c3, .slice a4 p1 c4, .int .i64 (d1 + 1), .bool true] 50 (0, 0)) := (Below.heap_alloc _ _ _ (by simp)).trans (heap_alloc_new' w6 _)
          have hx2 : ((w6.alloc (.cells #[.slice a3 l1.length c3, .slice a4 p1 c4, .int .i64 (d1 + 1), .bool true] 50 (0, 0))).alloc (.cells #[.slice a5 l2.length c5, .slice a6 p2 c6, .int .i64 (d2 + 1), .bool true] 50 (0, 0))).heap[w6.heap.size + 1]? = some (.cells #[.slice a5 l2.length c5, .slice a6 p2 c6, .int .i64 (d2 + 1), .bool true] 50 (0, 0)) := by
            have := heap_alloc_new' (w6.alloc (.cells #[.slice a3 l1.length c3, .slice a4 p1 c4, .int .i64 (d1 + 1), .bool true] 50 (0, 0))) (.cells #[.slice a5 l2.length c5, .slice a6 p2 c6, .int .i64 (d2 + 1), .bool true] 50 (0, 0))
            rwa [World.size_alloc] at this
          have HBX : Hid (∀ W : World, W.heap[w6.heap.size]? = some (.cells #[.slice a3 l1.length c3, .slice a4 p1 c4, .int .i64 (d1 + 1), .bool true] 50 (0, 0)) → W.heap[w6.heap.size + 1]? = some (.cells #[.slice a5 l2.length c5, .slice a6 p2 c6, .int .i64 (d2 + 1), .bool true] 50 (0, 0)) → W.cell? ⟨w6.heap.size, 0, none⟩ = some (.slice a3 l1.length c3) ∧ W.cell? ⟨w6.heap.size, 1, none⟩ = some (.slice a4 p1 c4) ∧ W.cell? ⟨w6.heap.size, 3, none⟩ = some (.bool true) ∧ W.cell? ⟨w6.heap.size + 1, 0, none⟩ = some (.slice a5 l2.length c5) ∧ W.cell? ⟨w6.heap.size + 1, 1, none⟩ = some (.slice a6 p2 c6) ∧ W.cell? ⟨w6.heap.size + 1, 3, none⟩ = some (.bool true)) := fun W h1 h2 => ⟨by rw [cell_of h1]; rfl, by rw [cell_of h1]; rfl, by rw [cell_of h1]; rfl, by rw [cell_of h2]; rfl, by rw [cell_of h2]; rfl, by rw [cell_of h2]; rfl⟩
          go_upto_region 23 with fail
          generalize (w6.alloc (.cells #[.slice a3 l1.length c3, .slice a4 p1 c4, .int .i64 (d1 + 1), .bool true] 50 (0, 0))).alloc (.cells #[.slice a5 l2.length c5, .slice a6 p2 c6, .int .i64 (d2 + 1), .bool true] 50 (0, 0)) = W at *
          obtain ⟨x0, x1, x3, x4, x5, x7⟩ := HBX.out W.drew hx1 hx2
          have h9 := hend W.drew ((Below.refl _ _).drew)
          have zw2 : wrap64 ((p1 : Int) + (p2 : Int)) = (p1 : Int) + (p2 : Int) := IntWalk.wrap64_in _ (by omega)
          clear hend hBW hx1 hx2 zw zb HEND
          generalize l1.length = n1 at *
          generalize l2.length = n2 at *
          go_region_held3 (fun w' => w'.cell? ⟨w6.heap.size, 0, none⟩ = some (.slice a3 n1 c3) ∧ w'.cell? ⟨w6.heap.size, 1, none⟩ = some (.slice a4 p1 c4) ∧ w'.cell? ⟨w6.heap.size, 3, none⟩ = some (.bool true) ∧ w'.cell? ⟨w6.heap.size + 1, 0, none⟩ = some (.slice a5 n2 c5) ∧ w'.cell? ⟨w6.heap.size + 1, 1, none⟩ = some (.slice a6 p2 c6) ∧ w'.cell? ⟨w6.heap.size + 1, 3, none⟩ = some (.bool true)) (go_keep) (first
            | (go_at_call 24; refine h11.mono ?_; rintro e v12 ⟨a7, c7, rfl, hb1, hb2, H12⟩
               obtain ⟨y0, y1, y3, y4, y5, y7⟩ := HBX.out v12 hb1 hb2
               clear hb1 hb2)
            | (go_at_call 14; refine h10.mono ?_; rintro e v11 ⟨rfl, hb1, hb2, H11⟩
               obtain ⟨y0, y1, y3, y4, y5, y7⟩ := HBX.out v11 hb1 hb2
               have h11 := H11.out v11 (Below.refl _ _)
               clear hb1 hb2)
            | (go_at_call 14; refine h9.mono ?_; rintro e v10 ⟨rfl, hb1, hb2, H10⟩
               obtain ⟨y0, y1, y3, y4, y5, y7⟩ := HBX.out v10 hb1 hb2
               have h10 := H10.out v10 (Below.refl _ _)
               clear hb1 hb2))
          all_goals
            have hbel := H12.out v12 (Below.refl _ _)
            go_wp2
            go_ret
            refine ⟨?_, hbel⟩
            show Ending.returned (.bool (IntKind.i64.wrap ((p1 : Int) + (p2 : Int)) == (p1 : Int) + (p2 : Int))) = Ending.returned (.bool true)
            rw [IntWalk.i64_in _ (by omega)]
            simp
end Go.Proofs.YtmgcaohpbaiiaaaGreatDoor
