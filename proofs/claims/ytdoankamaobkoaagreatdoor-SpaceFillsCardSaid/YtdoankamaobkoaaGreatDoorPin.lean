/- pager.Store, Unpin, Pin. -/
import Derived.Test.YtdoankamaobkoaaGreatDoorLoad
set_option linter.unusedSimpArgs false
set_option linter.unusedVariables false
namespace Go.Proofs.YtdoankamaobkoaaGreatDoor
open Go.RowKit Go.Maps

theorem del_get_none {α : Type} {k : Int} {l : List (Int × α)} (h : get k l = none) : del k l = l := del_none (get_none h)

set_option maxRecDepth 100000 in
set_option maxHeartbeats 1000000 in
/-- the way on which a page is changed -/
theorem store_yes {w : World} {L : PLoc} {S : Pgr} (h : PagerAt w L S) (hok : S.Ok) (i : Int) (s : ByteArray) (hwf : (Lit.int .i64 i).wf = true) (hm : S.may i = 0) (hs : s.size = 256)
    (hp : ∀ x, get i S.held = some x → x.pins = 0) (hlen : S.changed.length < 4611686018427387904) :
    Calls Tryz.prog 67 #[.pointer (some ⟨L.p, 0, none⟩), .int .i64 i, .string s] w fun e w' =>
      e = .returned (.int .i64 0) ∧ PagerAt w' L { S with held := del i S.held, changed := ins i s S.changed } ∧ Upd (L.fp S) w w' := by
  have hM := pmay_any h i
  have c2 := cell_of h.p 2
  have c3 := cell_of h.p 3
  simp at c2 c3
  have hl2 := h.held.look (k := i) Tryz.underlying107 (zero_page _) hwf
  rw [heldV_eq, mapV_get] at hl2
  rw [hm] at hM
  obtain ⟨w1, hdel, hM1, hT1⟩ := h.held.drop (k := i) Tryz.underlying107 hwf 0
  rw [heldV_eq, ← mapV_del, ← heldV_eq] at hM1
  have H1 := Lib.hid (h.turnHeld hM1 hT1 (fun q hq => (List.mem_filter.1 hq).1))
  have hcell1 := hT1.cell
  obtain ⟨w2, hput, hM2, hT2⟩ := H1.out.changed.put (k := i) Tryz.underlying108 (by rw [changedV_eq, mapV_length]; unfold maxLen; simp only; omega) hwf (.string s)
  rw [changedV_eq, ← mapV_ins (fun _ s => Value.string s), ← changedV_eq] at hM2
  have H2 := Lib.hid (H1.out.turnChanged hM2 hT2)
  have HU := Lib.hid (((Upd.refl (L.fp S) w).turn hT1 (fun _ => .inr (.inr (.inr (.inl rfl))))).turn hT2 (fun _ => .inr (.inr (.inr (.inr (.inl rfl))))))
  have hsz : (s.size == 256) = true := by simpa using hs
  have hsl := Lib.hid hs
  clear hM1 hT1 hM2 hT2 hm hok
  have hsl1 : s.size ≤ 256 := by have := hsl.out; omega
  have hsl2 : 256 ≤ s.size := by have := hsl.out; omega
  cases hx : get i S.held with
  | none =>
    rw [hx] at hl2
    simp at hl2
    clear hx hp h
    go_enter Tryz.func67, Tryz.ntmps67
    go_wp2_with (go_at_call 84; refine hM.mono ?_; rintro e w' ⟨rfl, rfl⟩)
    go_ret
    exact ⟨rfl, H2.out, HU.out⟩
  | some x =>
    rw [hx] at hl2
    simp at hl2
    have hpg := h.page _ (get_mem hx)
    have c1 := cell_of hpg 1
    simp [hp x hx] at c1
    clear hx hp h hpg
    go_enter Tryz.func67, Tryz.ntmps67
    go_wp2_with (go_at_call 84; refine hM.mono ?_; rintro e w' ⟨rfl, rfl⟩)
    go_ret
    exact ⟨rfl, H2.out, HU.out⟩

theorem srt_length {α : Type} : ∀ (l : List (Int × α)) (a b : Int), Srt l → (∀ q ∈ l, a ≤ q.1 ∧ q.1 < b) → a ≤ b → (l.length : Int) ≤ b - a
  | [], a, b, _, _, h => by simp; omega
  | p :: r, a, b, hs, hb, h => by
    obtain ⟨h1, h2⟩ := List.pairwise_cons.1 hs
    have hp := hb p (by simp)
    have := srt_length r (p.1 + 1) b h2 (fun q hq => ⟨by have := h1 q hq; omega, (hb q (by simp [hq])).2⟩) (by omega)
    simp; omega
theorem changed_length {S : Pgr} (h : S.Ok) : S.changed.length ≤ 8193 := by
  have := srt_length S.changed 0 8193 h.srtc (fun q hq => by have := isPage_bd (h.changed q hq).1; omega) (by omega)
  omega

set_option maxRecDepth 100000 in
set_option maxHeartbeats 1000000 in
theorem store_no {w : World} {L : PLoc} {S : Pgr} (h : PagerAt w L S) (i : Int) (s : ByteArray) (hwf : (Lit.int .i64 i).wf = true) (hsz : s.size ≤ 140737488355328) (e : Int)
    (he : (S.may i ≠ 0 ∧ e = S.may i) ∨ (S.may i = 0 ∧ s.size ≠ 256 ∧ e = 3) ∨ (S.may i = 0 ∧ s.size = 256 ∧ (∃ x, get i S.held = some x ∧ 0 < x.pins) ∧ e = 10)) :
    Calls Tryz.prog 67 #[.pointer (some ⟨L.p, 0, none⟩), .int .i64 i, .string s] w fun e' w' => e' = .returned (.int .i64 e) ∧ w = w' := by
  have hM := pmay_any h i
  have c2 := cell_of h.p 2
  simp at c2
  have hl2 := h.held.look (k := i) Tryz.underlying107 (zero_page _) hwf
  rw [heldV_eq, mapV_get] at hl2
  rcases he with ⟨hm, rfl⟩ | ⟨hm, hs, rfl⟩ | ⟨hm, hs, ⟨x, hx, hp⟩, rfl⟩
  · have hm' : (S.may i != 0) = true := by simpa using hm
    clear hm hl2 h
    generalize S.may i = m at *
    go_enter Tryz.func67, Tryz.ntmps67
    go_wp2_with (go_at_call 84; refine hM.mono ?_; rintro e w' ⟨rfl, rfl⟩)
    go_ret
    exact ⟨rfl, rfl⟩
  · rw [hm] at hM
    have hs' : (((s.size : Nat) : Int) != 256) = true := by simp; omega
    cases hx : get i S.held with
    | none =>
      rw [hx] at hl2
      simp at hl2
      clear hm hs h hx
      go_enter Tryz.func67, Tryz.ntmps67
      go_wp2_with (go_at_call 84; refine hM.mono ?_; rintro e w' ⟨rfl, rfl⟩)
      go_ret
      exact ⟨rfl, rfl⟩
    | some x =>
      rw [hx] at hl2
      simp at hl2
      clear hm hs h hx
      go_enter Tryz.func67, Tryz.ntmps67
      go_wp2_with (go_at_call 84; refine hM.mono ?_; rintro e w' ⟨rfl, rfl⟩)
      go_ret
      exact ⟨rfl, rfl⟩
  · rw [hm] at hM
    rw [hx] at hl2
    simp at hl2
    have hpg := h.page _ (get_mem hx)
    have c1 := cell_of hpg 1
    simp at c1
    have h1 : s.size ≤ 256 := by omega
    have h2 : 256 ≤ s.size := by omega
    clear hm hs h hx hpg
    go_enter Tryz.func67, Tryz.ntmps67
    go_wp2_with (go_at_call 84; refine hM.mono ?_; rintro e w' ⟨rfl, rfl⟩)
    go_ret
    exact ⟨rfl, rfl⟩

theorem store_at {w : World} {p d : Nat} {F : Nat → Prop} {S : Pgr} (h : PAt w p d F S) (i : Int) (s : ByteArray) (hwf : (Lit.int .i64 i).wf = true) (hsz : s.size ≤ 140737488355328) :
    Calls Tryz.prog 67 #[.pointer (some ⟨p, 0, none⟩), .int .i64 i, .string s] w fun e w' =>
      e = .returned (.int .i64 (S.store i s).1) ∧ Stp F w w' p d (S.store i s).2 := by
  have hso := store_ok (S := S) (by obtain ⟨_, _, _, _, _, hok⟩ := h; exact hok) i s
  have hP := h
  obtain ⟨L, rfl, rfl, hA, hF, hok⟩ := h
  have key : ∀ e, (S.store i s) = (e, S) → ((S.may i ≠ 0 ∧ e = S.may i) ∨ (S.may i = 0 ∧ s.size ≠ 256 ∧ e = 3) ∨ (S.may i = 0 ∧ s.size = 256 ∧ (∃ x, get i S.held = some x ∧ 0 < x.pins) ∧ e = 10)) →
      Calls Tryz.prog 67 #[.pointer (some ⟨L.p, 0, none⟩), .int .i64 i, .string s] w fun e w' =>
      e = .returned (.int .i64 (S.store i s).1) ∧ Stp F w w' L.p L.d (S.store i s).2 := fun e h1 h2 => by
    rw [h1]
    refine (store_no hA i s hwf hsz e h2).mono ?_
    rintro e' w' ⟨rfl, rfl⟩
    exact ⟨rfl, Stp.refl hP⟩
  have key2 : S.may i = 0 → s.size = 256 → (∀ x, get i S.held = some x → x.pins = 0) → S.store i s = (0, { S with held := del i S.held, changed := ins i s S.changed }) →
      Calls Tryz.prog 67 #[.pointer (some ⟨L.p, 0, none⟩), .int .i64 i, .string s] w fun e w' =>
      e = .returned (.int .i64 (S.store i s).1) ∧ Stp F w w' L.p L.d (S.store i s).2 := fun hm hs hp h1 => by
    rw [h1] at hso ⊢
    refine (store_yes hA hok i s hwf hm hs hp (by have := changed_length hok; omega)).mono ?_
    rintro e' w' ⟨rfl, hP1, hU1⟩
    refine ⟨rfl, Stp.same hF hP1 (fun b hb => ?_) hU1 hso⟩
    rcases hb with h | h | h | h | h | h | ⟨q, hq, h⟩
    · exact .inl h
    · exact .inr (.inl h)
    · exact .inr (.inr (.inl h))
    · exact .inr (.inr (.inr (.inl h)))
    · exact .inr (.inr (.inr (.inr (.inl h))))
    · exact .inr (.inr (.inr (.inr (.inr (.inl h)))))
    · exact .inr (.inr (.inr (.inr (.inr (.inr ⟨q, (List.mem_filter.1 hq).1, h⟩)))))
  by_cases hm : S.may i = 0
  · by_cases hs : s.size = 256
    · cases hx : get i S.held with
      | none => exact key2 hm hs (by rw [hx]; simp) (by unfold Pgr.store; rw [if_neg (by simpa using hm), if_neg (by simpa using hs), hx])
      | some x =>
        by_cases hp : 0 < x.pins
        · exact key 10 (by unfold Pgr.store; rw [if_neg (by simpa using hm), if_neg (by simpa using hs), hx]; simp only; rw [if_pos hp]) (.inr (.inr ⟨hm, hs, ⟨x, hx, hp⟩, rfl⟩))
        · have hx2 := (hok.held _ (get_mem hx)).2.1
          simp only at hx2
          exact key2 hm hs (fun y hy => by rw [hx] at hy; injection hy with hy; rw [← hy]; omega) (by unfold Pgr.store; rw [if_neg (by simpa using hm), if_neg (by simpa using hs), hx]; simp only; rw [if_neg hp])
    · exact key 3 (by unfold Pgr.store; rw [if_neg (by simpa using hm), if_pos hs]) (.inr (.inl ⟨hm, hs, rfl⟩))
  · exact key (S.may i) (by unfold Pgr.store; rw [if_pos hm]) (.inl ⟨hm, rfl⟩)

/-! 'Unpin' -/
end Go.Proofs.YtdoankamaobkoaaGreatDoor
