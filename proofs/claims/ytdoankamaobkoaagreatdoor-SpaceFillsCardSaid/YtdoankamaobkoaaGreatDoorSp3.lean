/- A space: next, Alloc, Release, Get, Put, Head, SetHead, Commit, Undo. -/
import Derived.Test.YtdoankamaobkoaaGreatDoorSp2
set_option linter.unusedSimpArgs false
set_option linter.unusedVariables false
namespace Go.Proofs.YtdoankamaobkoaaGreatDoor
open Go.RowKit Go.Maps Go.Shelf

theorem next_some {n : Int} {x : ByteArray} {k : Nat} (hk : k < spMany n) (ha : ∀ j, j < k → bitB x (j + 1) = true) (hb : bitB x (k + 1) = false) : spNext n x = some k := by
  unfold spNext
  rw [List.find?_range_eq_some]
  exact ⟨by simp [hb], List.mem_range.2 hk, fun j hj => by simp [ha j hj]⟩
theorem next_none {n : Int} {x : ByteArray} (ha : ∀ j, j < spMany n → bitB x (j + 1) = true) : spNext n x = none := by
  unfold spNext
  rw [List.find?_range_eq_none]
  exact fun j hj => by simp [ha j hj]
theorem next_facts {n : Int} {x : ByteArray} {k : Nat} (h : spNext n x = some k) : k < spMany n ∧ bitB x (k + 1) = false := by
  unfold spNext at h
  rw [List.find?_range_eq_some] at h
  exact ⟨List.mem_range.1 h.2.1, by simpa using h.1⟩
/-- what 'next' answers -/
def NextIs (n : Int) (x : ByteArray) (r : Int) (v : Value) (w : World) : Prop :=
  match spNext n x with
  | none => r = 0 ∧ ErrV w v 16
  | some j => r = jFirst n + 1 + j ∧ v = .nilIface

section
variable {w0 w : World} {s d : Nat} {F : Nat → Prop} {n N : Int} {V D : Int → ByteArray}
theorem SIn.first (h : SIn w0 w s d F n V D N) : isPage n (jFirst n) = true := by
  have hbd := h.bd
  have := pages_many hbd.1 hbd.2
  exact page_in (by omega) (by omega)

set_option maxHeartbeats 1000000 in
set_option maxRecDepth 100000 in
theorem next_sp (h : SIn w0 w s d F n V D N) (hN : N < 2305843009213693952) :
    Calls Tryz.prog 33 #[.pointer (some ⟨s, 0, none⟩)] w fun e w' => ∃ r v, e = .returned (.tuple #[.int .i64 r, v]) ∧ NextIs n (V (jFirst n)) r v w' ∧ SStp w0 w w' s d F n V D (N + 2) := by
  have hbd := h.bd
  have hF := jFirst_bd n
  obtain ⟨m1, m2, m3⟩ := spMany_bd hbd.1 hbd.2
  have hc := h.cell0
  have hC := sfirst_any s n w hc
  have hpg := h.first
  have HX := Lib.hid (h.size hpg)
  have H := Lib.hid h
  have hL := load_sp h hpg hN
  have HL := Lib.hid hL
  have HSF : Hid (∀ w' : World, w'.cell? ⟨s, 0, none⟩ = some (.int .i64 n) → Calls Tryz.prog 40 #[.pointer (some ⟨s, 0, none⟩)] w' fun e w'' => e = .returned (.int .i64 (jFirst n)) ∧ w' = w'') := fun w' => sfirst_any s n w'
  have HSL : Hid (∀ w' : World, w'.cell? ⟨s, 0, none⟩ = some (.int .i64 n) → Calls Tryz.prog 41 #[.pointer (some ⟨s, 0, none⟩)] w' fun e w'' => e = .returned (.int .i64 (jFirst n + spMany n)) ∧ ∃ k, w'' = w'.drewN k) := fun w' hc' => by
    rw [show jFirst n + (spMany n : Int) = jFirst n + jPages n - 2 by omega]; exact slast_any s n w' hc'
  have HSB : Hid (∀ (w' : World) (j : Nat), w'.cell? ⟨s, 0, none⟩ = some (.int .i64 n) → j < 2047 → Calls Tryz.prog 63 #[.pointer (some ⟨s, 0, none⟩), .string (V (jFirst n)), .int .i64 (jFirst n + 1 + j)] w' fun e w'' => e = .returned (.bool (bitB (V (jFirst n)) (j + 1))) ∧ w' = w'') := fun w' j hc' hj =>
    sbit_any s n w' hc' _ HX.out (j + 1) (by omega) _ (by omega)
  clear h hL hpg hc m3 HX
  have HNX : Hid (∀ k, k < spMany n → (∀ j, j < k → bitB (V (jFirst n)) (j + 1) = true) → bitB (V (jFirst n)) (k + 1) = false → ∀ w', NextIs n (V (jFirst n)) (jFirst n + 1 + k) .nilIface w') := fun k h1 h2 h3 w' => by
    unfold NextIs; rw [next_some h1 h2 h3]; exact ⟨rfl, rfl⟩
  have HNN : Hid ((∀ j, j < spMany n → bitB (V (jFirst n)) (j + 1) = true) → ∀ v w', ErrV w' v 16 → NextIs n (V (jFirst n)) 0 v w') := fun h1 v w' h2 => by
    unfold NextIs; rw [next_none h1]; exact ⟨rfl, h2⟩
  generalize spMany n = m at *
  generalize V (jFirst n) = x at *
  generalize jFirst n = f at *
  go_enter Tryz.func33, Tryz.ntmps33
  go_wp2_with (go_at_call 40; refine hC.mono ?_; rintro e w' ⟨rfl, rfl⟩)
  refine HL.out.mono ?_
  rintro e w1 ⟨rfl, hS⟩
  have HS := Lib.hid hS
  have hC1 := HSF.out w1 hS.sin.cell0
  clear hS HL hC
  go_wp2_with (go_at_call 40; refine hC1.mono ?_; rintro e w' ⟨rfl, rfl⟩)
  go_loopw [6] (fun i wr => ∃ k : Nat, i = .int .i64 (f + 1 + k) ∧ k ≤ m ∧ Hid (∀ j, j < k → bitB x (j + 1) = true) ∧ Hid (SStp w0 w wr s d F n V D (N + 2))) (fun i _ => (f + 1 + m - intOf i).toNat)
  case atStart => exact ⟨0, by simp, by omega, Lib.hid (fun j hj => by omega), HS⟩
  case round =>
    obtain ⟨k, rfl, hk, HK, HSk⟩ := hrel
    have hl := HSL.out wr HSk.out.sin.cell0
    by_cases hlt : k < m
    · have hb : ∀ q, Calls Tryz.prog 63 #[.pointer (some ⟨s, 0, none⟩), .string x, .int .i64 (f + 1 + k)] (wr.drewN q) fun e w'' => e = .returned (.bool (bitB x (k + 1))) ∧ wr.drewN q = w'' :=
        fun q => HSB.out (wr.drewN q) k HSk.out.sin.cell0 (by omega)
      have HD : Hid (∀ q, SStp w0 w (wr.drewN q) s d F n V D (N + 2)) := fun q => SStp.made H.out HSk.out (drewN_below wr q)
      cases hbit : bitB x (k + 1) with
      | true =>
        rw [hbit] at hb
        have HK2 : Hid (∀ j, j < k + 1 → bitB x (j + 1) = true) := fun j hj => by
          by_cases e : j = k
          · subst e; exact hbit
          · exact HK.out j (by omega)
        clear hbit HK HSk
        go_wp2_with (first
          | (go_at_call 41; refine hl.mono ?_; rintro e w' ⟨rfl, q, rfl⟩)
          | (go_at_call 63; refine (hb _).mono ?_; rintro e w' ⟨rfl, rfl⟩))
        go_roundw
        case rel => exact ⟨k + 1, by congr 1; push_cast; omega, by omega, HK2, HD.out _⟩
        case measure => simp [intOf]; omega
      | false =>
        rw [hbit] at hb
        have HR := Lib.hid (HNX.out k hlt HK.out hbit)
        clear hbit HK HSk
        go_wp2_with (first
          | (go_at_call 41; refine hl.mono ?_; rintro e w' ⟨rfl, q, rfl⟩)
          | (go_at_call 63; refine (hb _).mono ?_; rintro e w' ⟨rfl, rfl⟩))
        go_ret2
        exact ⟨_, _, rfl, HR.out _, HD.out _⟩
    · obtain rfl : k = m := by omega
      have HD : Hid (∀ q, SStp w0 w (wr.drewN q) s d F n V D (N + 2)) := fun q => SStp.made H.out HSk.out (drewN_below wr q)
      have hc2 : ∀ q, Calls Tryz.prog 40 #[.pointer (some ⟨s, 0, none⟩)] (wr.drewN q) fun e w' => e = .returned (.int .i64 f) ∧ wr.drewN q = w' := fun q => HSF.out _ HSk.out.sin.cell0
      have HNK := Lib.hid (HNN.out HK.out)
      clear HK HSk
      go_wp2_with (first
        | (go_at_call 41; refine hl.mono ?_; rintro e w' ⟨rfl, q, rfl⟩)
        | (go_at_call 40; refine (hc2 _).mono ?_; rintro e w' ⟨rfl, rfl⟩))
      refine (fault_any _ _ _).mono ?_
      rintro e w2 ⟨v, rfl, hE, hB⟩
      have HE := Lib.hid hE
      have HB := Lib.hid hB
      clear hE hB
      go_wp2
      go_ret2
      exact ⟨_, _, rfl, HNK.out _ _ HE.out, SStp.made H.out (HD.out _) HB.out⟩

/-! ### the calls -/
theorem taken_in {i : Int} (h : SIn w0 w s d F n V D N) (h0 : spTaken n V i = 0) : isPage n i = true ∧ ∃ j : Nat, j < spMany n ∧ i = jFirst n + 1 + j ∧ bitB (V (jFirst n)) (j + 1) = true := by
  have hbd := h.bd
  obtain ⟨m1, m2, m3⟩ := spMany_bd hbd.1 hbd.2
  unfold spTaken at h0
  split at h0
  · cases h0
  · rename_i hr
    split at h0
    · rename_i hb
      refine ⟨page_in (by omega) (by omega), (i - jFirst n - 1).toNat, by omega, by omega, ?_⟩
      rw [show (i - jFirst n - 1).toNat + 1 = (i - jFirst n).toNat by omega]; exact hb
    · cases h0

set_option maxHeartbeats 1000000 in
set_option maxRecDepth 100000 in
theorem get_sp (h : SIn w0 w s d F n V D N) (i : Int) (hN : N < 2305843009213693000) :
    Calls Tryz.prog 26 #[.pointer (some ⟨s, 0, none⟩), .int .i64 i] w fun e w' =>
      e = .returned (.tuple #[.string (if spTaken n V i = 0 then V i else ⟨#[]⟩), .int .i64 (spTaken n V i)]) ∧ SStp w0 w w' s d F n V D (N + 4) := by
  have H := Lib.hid h
  have HT := Lib.hid (taken_sp h i (by omega))
  by_cases h0 : spTaken n V i = 0
  · have HP := Lib.hid (taken_in h h0).1
    rw [h0] at HT ⊢
    rw [if_pos rfl]
    obtain ⟨x, HXE⟩ : ∃ x, Hid (V i = x) := ⟨_, Lib.hid rfl⟩
    rw [HXE.out]
    clear h h0
    go_enter Tryz.func26, Tryz.ntmps26
    go_wp2_with fail
    refine HT.out.mono ?_
    rintro e w1 ⟨v, rfl, hE, hS⟩
    obtain rfl : v = .nilIface := by rcases hE with ⟨_, h⟩ | ⟨h, _⟩; exact h; exact absurd rfl h
    have HS := Lib.hid hS
    have hl := load_sp hS.sin HP.out (by omega)
    rw [HXE.out] at hl
    have HL := Lib.hid hl
    clear hE hS HT hl
    go_wp2_with fail
    refine HL.out.mono ?_
    rintro e w2 ⟨rfl, hS2⟩
    have HS2 := Lib.hid hS2
    have HNm := Lib.hid (number_any .nilIface 0 w2 (.inl ⟨rfl, rfl⟩) hS2.sin.globW)
    clear hS2 HL
    go_wp2_with fail
    refine HNm.out.mono ?_
    rintro e w3 ⟨rfl, hB⟩
    have HB := Lib.hid hB
    clear hB HNm
    go_wp2
    go_ret2
    exact ⟨rfl, (SStp.made H.out (SStp.trans H.out HS.out HS2.out) HB.out).mono (by omega)⟩
  · rw [if_neg h0]
    have HK := Lib.hid h0
    generalize spTaken n V i = k at *
    clear h h0
    go_enter Tryz.func26, Tryz.ntmps26
    go_wp2_with fail
    refine HT.out.mono ?_
    rintro e w1 ⟨v, rfl, hE, hS⟩
    have HS := Lib.hid hS
    have HNm := Lib.hid (number_any v k w1 hE hS.sin.globW)
    obtain ⟨fb, rfl⟩ : ∃ fb : Nat, v = .iface 136 (.pointer (some ⟨fb, 0, none⟩)) := by
      rcases hE with ⟨h, _⟩ | ⟨_, fb, pg, h, _⟩
      · exact absurd h HK.out
      · exact ⟨fb, h⟩
    clear hE hS HT
    go_wp2_with fail
    refine HNm.out.mono ?_
    rintro e w3 ⟨rfl, hB⟩
    have HB := Lib.hid hB
    clear hB HNm
    go_wp2
    go_ret2
    exact ⟨rfl, (SStp.made H.out HS.out HB.out).mono (by omega)⟩

/-- what Put answers -/
def spPut (n : Int) (V : Int → ByteArray) (i : Int) (x : ByteArray) : Int := if spTaken n V i ≠ 0 then spTaken n V i else if x.size ≠ 256 then 3 else 0
set_option maxHeartbeats 1000000 in
set_option maxRecDepth 100000 in
theorem put_sp (h : SIn w0 w s d F n V D N) (i : Int) (x : ByteArray) (hx : x.size ≤ 140737488355328) (hN : N < 2305843009213693000) :
    Calls Tryz.prog 28 #[.pointer (some ⟨s, 0, none⟩), .int .i64 i, .string x] w fun e w' =>
      e = .returned (.int .i64 (spPut n V i x)) ∧ SStp w0 w w' s d F n (if spPut n V i x = 0 then upd V i x else V) D (N + 4) := by
  have H := Lib.hid h
  have HT := Lib.hid (taken_sp h i (by omega))
  by_cases h0 : spTaken n V i = 0
  · have HP := Lib.hid (taken_in h h0).1
    by_cases hsz : x.size = 256
    · have e1 : spPut n V i x = 0 := by unfold spPut; rw [if_neg (by omega), if_neg (by omega)]
      rw [h0] at HT
      rw [e1, if_pos rfl]
      have HSZ := Lib.hid hsz
      clear h h0 e1 hsz hx
      go_enter Tryz.func28, Tryz.ntmps28
      go_wp2_with fail
      refine HT.out.mono ?_
      rintro e w1 ⟨v, rfl, hE, hS⟩
      obtain rfl : v = .nilIface := by rcases hE with ⟨_, h⟩ | ⟨h, _⟩; exact h; exact absurd rfl h
      have HS := Lib.hid hS
      have HL := Lib.hid (store_sp hS.sin HP.out x HSZ.out)
      clear hE hS HT
      go_wp2_with fail
      refine HL.out.mono ?_
      rintro e w2 ⟨rfl, hS2⟩
      have HS2 := Lib.hid hS2
      have HNm := Lib.hid (number_any .nilIface 0 w2 (.inl ⟨rfl, rfl⟩) hS2.sin.globW)
      clear hS2 HL
      go_wp2_with fail
      refine HNm.out.mono ?_
      rintro e w3 ⟨rfl, hB⟩
      have HB := Lib.hid hB
      clear hB HNm
      go_wp2
      go_ret
      exact ⟨rfl, (SStp.made H.out (SStp.trans H.out HS.out HS2.out) HB.out).mono (by omega)⟩
    · have e1 : spPut n V i x = 3 := by unfold spPut; rw [if_neg (by omega), if_pos hsz]
      rw [h0] at HT
      rw [e1, if_neg (by omega)]
      have HSZ := Lib.hid hsz
      have HX := Lib.hid hx
      clear h h0 e1 hsz hx
      go_enter Tryz.func28, Tryz.ntmps28
      go_wp2_with fail
      refine HT.out.mono ?_
      rintro e w1 ⟨v, rfl, hE, hS⟩
      obtain rfl : v = .nilIface := by rcases hE with ⟨_, h⟩ | ⟨h, _⟩; exact h; exact absurd rfl h
      have HS := Lib.hid hS
      have HL := Lib.hid (store_form hS.sin HP.out x HSZ.out HX.out)
      clear hE hS HT
      go_wp2_with fail
      refine HL.out.mono ?_
      rintro e w2 ⟨v, rfl, hE, hS2⟩
      have HS2 := Lib.hid hS2
      have HNm := Lib.hid (number_any v 3 w2 hE hS2.sin.globW)
      clear hS2 HL hE
      go_wp2_with fail
      refine HNm.out.mono ?_
      rintro e w3 ⟨rfl, hB⟩
      have HB := Lib.hid hB
      clear hB HNm
      go_wp2
      go_ret
      exact ⟨rfl, (SStp.made H.out (SStp.trans H.out HS.out HS2.out) HB.out).mono (by omega)⟩
  · have e1 : spPut n V i x = spTaken n V i := by unfold spPut; rw [if_pos h0]
    rw [e1, if_neg h0]
    have HK := Lib.hid h0
    generalize spTaken n V i = k at *
    clear h h0 e1
    go_enter Tryz.func28, Tryz.ntmps28
    go_wp2_with fail
    refine HT.out.mono ?_
    rintro e w1 ⟨v, rfl, hE, hS⟩
    have HS := Lib.hid hS
    have HNm := Lib.hid (number_any v k w1 hE hS.sin.globW)
    obtain ⟨fb, rfl⟩ : ∃ fb : Nat, v = .iface 136 (.pointer (some ⟨fb, 0, none⟩)) := by
      rcases hE with ⟨h, _⟩ | ⟨_, fb, pg, h, _⟩
      · exact absurd h HK.out
      · exact ⟨fb, h⟩
    clear hE hS HT
    go_wp2_with fail
    refine HNm.out.mono ?_
    rintro e w3 ⟨rfl, hB⟩
    have HB := Lib.hid hB
    clear hB HNm
    go_wp2
    go_ret
    exact ⟨rfl, (SStp.made H.out HS.out HB.out).mono (by omega)⟩

set_option maxHeartbeats 1000000 in
set_option maxRecDepth 100000 in
theorem release_sp (h : SIn w0 w s d F n V D N) (i : Int) (hN : N < 2305843009213693000) :
    Calls Tryz.prog 16 #[.pointer (some ⟨s, 0, none⟩), .int .i64 i] w fun e w' =>
      e = .returned (.int .i64 (spTaken n V i)) ∧ SStp w0 w w' s d F n (if spTaken n V i = 0 then upd V (jFirst n) (flipB (V (jFirst n)) (i - jFirst n).toNat) else V) D (N + 4) := by
  have H := Lib.hid h
  have HT := Lib.hid (taken_sp h i (by omega))
  by_cases h0 : spTaken n V i = 0
  · obtain ⟨hp, j, hj1, hj2, hj3⟩ := taken_in h h0
    have hbd := h.bd
    obtain ⟨m1, m2, m3⟩ := spMany_bd hbd.1 hbd.2
    have HJ : Hid ((i - jFirst n).toNat < 2048 ∧ i = jFirst n + ((i - jFirst n).toNat : Nat)) := ⟨by omega, by omega⟩
    rw [h0] at HT ⊢
    rw [if_pos rfl]
    clear h h0 hp hj1 hj2 hj3 m1 m2 m3
    go_enter Tryz.func16, Tryz.ntmps16
    go_wp2_with fail
    refine HT.out.mono ?_
    rintro e w1 ⟨v, rfl, hE, hS⟩
    obtain rfl : v = .nilIface := by rcases hE with ⟨_, h⟩ | ⟨h, _⟩; exact h; exact absurd rfl h
    have HS := Lib.hid hS
    have HL := Lib.hid (turn_sp hS.sin _ HJ.out.1 i HJ.out.2 (by omega))
    clear hE hS HT
    go_wp2_with fail
    refine HL.out.mono ?_
    rintro e w2 ⟨rfl, hS2⟩
    have HS2 := Lib.hid hS2
    have HNm := Lib.hid (number_any .nilIface 0 w2 (.inl ⟨rfl, rfl⟩) hS2.sin.globW)
    clear hS2 HL
    go_wp2_with fail
    refine HNm.out.mono ?_
    rintro e w3 ⟨rfl, hB⟩
    have HB := Lib.hid hB
    clear hB HNm
    go_wp2
    go_ret
    exact ⟨rfl, (SStp.made H.out (SStp.trans H.out HS.out HS2.out) HB.out).mono (by omega)⟩
  · rw [if_neg h0]
    have HK := Lib.hid h0
    generalize spTaken n V i = k at *
    clear h h0
    go_enter Tryz.func16, Tryz.ntmps16
    go_wp2_with fail
    refine HT.out.mono ?_
    rintro e w1 ⟨v, rfl, hE, hS⟩
    have HS := Lib.hid hS
    have HNm := Lib.hid (number_any v k w1 hE hS.sin.globW)
    obtain ⟨fb, rfl⟩ : ∃ fb : Nat, v = .iface 136 (.pointer (some ⟨fb, 0, none⟩)) := by
      rcases hE with ⟨h, _⟩ | ⟨_, fb, pg, h, _⟩
      · exact absurd h HK.out
      · exact ⟨fb, h⟩
    clear hE hS HT
    go_wp2_with fail
    refine HNm.out.mono ?_
    rintro e w3 ⟨rfl, hB⟩
    have HB := Lib.hid hB
    clear hB HNm
    go_wp2
    go_ret
    exact ⟨rfl, (SStp.made H.out HS.out HB.out).mono (by omega)⟩

/-- a page of bytes 0 -/
def zeroPg : ByteArray := padB ⟨#[]⟩ 256
theorem zeroPg_size : zeroPg.size = 256 := padB_size (by decide)
/-- behind Alloc -/
def spGot (n : Int) (V : Int → ByteArray) (j : Nat) : Int → ByteArray := upd (upd V (jFirst n) (flipB (V (jFirst n)) (j + 1))) (jFirst n + 1 + j) zeroPg
set_option maxHeartbeats 1000000 in
set_option maxRecDepth 100000 in
theorem alloc_none (h : SIn w0 w s d F n V D N) (hn : spNext n (V (jFirst n)) = none) (hN : N < 2305843009213693000) :
    Calls Tryz.prog 13 #[.pointer (some ⟨s, 0, none⟩)] w fun e w' => e = .returned (.tuple #[.int .i64 0, .int .i64 16]) ∧ SStp w0 w w' s d F n V D (N + 2) := by
  have H := Lib.hid h
  have HT := Lib.hid (next_sp h (by omega))
  have HN := Lib.hid hn
  clear h hn
  go_enter Tryz.func13, Tryz.ntmps13
  go_wp2_with fail
  refine HT.out.mono ?_
  rintro e w1 ⟨r, v, rfl, hX, hS⟩
  have HS := Lib.hid hS
  obtain ⟨rfl, hE⟩ : r = 0 ∧ ErrV w1 v 16 := by unfold NextIs at hX; rw [HN.out] at hX; exact hX
  obtain ⟨fb, pg, rfl, hb⟩ : ∃ (fb : Nat) (pg : Int), v = .iface 136 (.pointer (some ⟨fb, 0, none⟩)) ∧ w1.heap[fb]? = some (.cells #[.int .i64 pg, .iface 27 (.int .i64 16)] 138 (0, 0)) := by
    rcases hE with ⟨h, _⟩ | ⟨_, h⟩
    · cases h
    · exact h
  have HI := Lib.hid (is_fault fb 16 w1 (by rw [cell_of hb]; rfl))
  clear hX hE hS HT hb
  go_wp2_with fail
  refine HI.out.mono ?_
  rintro e w2 ⟨rfl, rfl⟩
  clear HI
  go_wp2
  go_ret2
  exact ⟨rfl, HS.out⟩
set_option maxHeartbeats 1000000 in
set_option maxRecDepth 100000 in
theorem alloc_some (h : SIn w0 w s d F n V D N) {j : Nat} (hn : spNext n (V (jFirst n)) = some j) (hN : N < 2305843009213693000) :
    Calls Tryz.prog 13 #[.pointer (some ⟨s, 0, none⟩)] w fun e w' => e = .returned (.tuple #[.int .i64 (jFirst n + 1 + j), .int .i64 0]) ∧ SStp w0 w w' s d F n (spGot n V j) D (N + 4) := by
  have H := Lib.hid h
  have HT := Lib.hid (next_sp h (by omega))
  have HN := Lib.hid hn
  have hbd := h.bd
  obtain ⟨m1, m2, m3⟩ := spMany_bd hbd.1 hbd.2
  have hjm := (next_facts hn).1
  have HPG : Hid (isPage n (jFirst n + 1 + j) = true) := page_in (by omega) (by omega)
  have HJ : Hid (j + 1 < 2048) := by show _ < _; omega
  clear h hn m1 m2 m3 hjm
  go_enter Tryz.func13, Tryz.ntmps13
  go_wp2_with fail
  refine HT.out.mono ?_
  rintro e w1 ⟨r, v, rfl, hX, hS⟩
  have HS := Lib.hid hS
  obtain ⟨rfl, rfl⟩ : r = jFirst n + 1 + j ∧ v = .nilIface := by unfold NextIs at hX; rw [HN.out] at hX; exact hX
  have HI := Lib.hid (is_nil 16 w1)
  have HL := Lib.hid (turn_sp hS.sin (j + 1) HJ.out (jFirst n + 1 + j) (by push_cast; omega) (by omega))
  clear hX hS HT
  go_wp2_with fail
  refine HI.out.mono ?_
  rintro e w2 ⟨rfl, rfl⟩
  clear HI
  go_wp2_with fail
  refine HL.out.mono ?_
  rintro e w2 ⟨rfl, hS2⟩
  have HS2 := Lib.hid hS2
  have HPd := Lib.hid (pad_any ⟨#[]⟩ 256 w2 (by decide) (by omega))
  clear hS2 HL
  go_wp2_with fail
  refine HPd.out.mono ?_
  rintro e w3 ⟨rfl, hB⟩
  have HS3 := Lib.hid (SStp.made HS.out.sin HS2.out hB)
  have hst := store_sp HS3.out.sin HPG.out zeroPg zeroPg_size
  have HST := Lib.hid hst
  have hz : Hid (padB ⟨#[]⟩ 256 = zeroPg) := rfl
  rw [hz.out]
  clear hst hB HPd hz
  generalize hzp : zeroPg = zp at *
  go_wp2_with fail
  refine HST.out.mono ?_
  rintro e w4 ⟨rfl, hS4⟩
  have HS4 := Lib.hid hS4
  clear hS4 HST
  have HZP := Lib.hid hzp
  clear hzp
  go_wp2
  go_ret2
  refine ⟨rfl, ?_⟩
  have h5 := SStp.trans H.out HS.out (SStp.trans HS.out.sin HS3.out HS4.out)
  unfold spGot
  rw [HZP.out]
  exact h5.mono (by omega)
end
end Go.Proofs.YtdoankamaobkoaaGreatDoor
