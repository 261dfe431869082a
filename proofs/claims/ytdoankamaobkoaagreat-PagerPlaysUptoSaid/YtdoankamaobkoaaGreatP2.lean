/- pager.Store, Unpin, Pin · pager.Pin · pager.Dirty and Held: the numbers of the changed pages, rising; of the held ones, by their uses · pager.Held: the held pages' numbers, the one used longest ago first · Zeros, block: texts made as long as a block; a new disk; a new pager · pager.New, and what every statement on the pager asks ahead: wakes · The pager in what a call has made since it began: each method once more, in that word. -/
import Derived.Test.YtdoankamaobkoaaGreatP1
import Derived.StillTailTactics
import Derived.Test.YtdoankamaobkoaaGreatShelf
import Derived.Laws.CopyOwn
import Derived.Carry
namespace Go.Proofs.YtdoankamaobkoaaGreat
/-! Pin -/
section
set_option linter.unusedSimpArgs false
set_option linter.unusedVariables false
open Go.RowKit Go.Maps

theorem del_get_none {α : Type} {k : Int} {l : List (Int × α)} (h : get k l = none) : del k l = l := del_none (get_none h)

set_option maxRecDepth 100000 in
set_option maxHeartbeats 1000000 in
/-- the way on which a page is changed -/
theorem store_yes {w : World} {L : PLoc} {S : Pgr} (h : PagerAt w L S) (hok : S.Ok) (i : Int) (s : ByteArray) (hwf : (Lit.int .i64 i).wf = true) (hm : S.may i = 0) (hs : s.size = 256)
    (hp : ∀ x, get i S.held = some x → x.pins = 0) (hlen : S.changed.length < 4611686018427387904) :
    Calls Tryz.prog 10 #[.pointer (some ⟨L.p, 0, none⟩), .int .i64 i, .string s] w fun e w' =>
      e = .returned (.int .i64 0) ∧ PagerAt w' L { S with held := del i S.held, changed := ins i s S.changed } ∧ Upd (L.fp S) w w' := by
  have hM := pmay_any h i
  have c2 := cell_of h.p 2
  have c3 := cell_of h.p 3
  simp at c2 c3
  have hl2 := h.held.look (k := i) Tryz.underlying68 (zero_page _) hwf
  rw [heldV_eq, mapV_get] at hl2
  rw [hm] at hM
  obtain ⟨w1, hdel, hM1, hT1⟩ := h.held.drop (k := i) Tryz.underlying68 hwf 0
  rw [heldV_eq, ← mapV_del, ← heldV_eq] at hM1
  have H1 := Lib.hid (h.turnHeld hM1 hT1 (fun q hq => (List.mem_filter.1 hq).1))
  have hcell1 := hT1.cell
  obtain ⟨w2, hput, hM2, hT2⟩ := H1.out.changed.put (k := i) Tryz.underlying69 (by rw [changedV_eq, mapV_length]; unfold maxLen; simp only; omega) hwf (.string s)
  rw [changedV_eq, ← mapV_ins (fun _ s => Value.string s), ← changedV_eq] at hM2
  have H2 := Lib.hid (H1.out.turnChanged hM2 hT2)
  have HU := Lib.hid (((Upd.refl (L.fp S) w).turn hT1 (fun _ => .inr (.inr (.inr (.inl rfl))))).turn hT2 (fun _ => .inr (.inr (.inr (.inr (.inl rfl))))))
  have hsz : (s.size == 256) = true := by simpa using hs
  have hsl := Lib.hid hs
  clear hM1 hT1 hM2 hT2 hm hok
  have hsl1 : s.size ≤ 256 := by have := hsl.out; omega
  have hsl2 : 256 ≤ s.size := by have := hsl.out; omega
  cases hx : get i S.held with
  | none =>
    rw [hx] at hl2
    simp at hl2
    clear hx hp h
    go_enter Tryz.func10, Tryz.ntmps10
    go_wp2_with (go_at_call 33; refine hM.mono ?_; rintro e w' ⟨rfl, rfl⟩)
    go_ret
    exact ⟨rfl, H2.out, HU.out⟩
  | some x =>
    rw [hx] at hl2
    simp at hl2
    have hpg := h.page _ (get_mem hx)
    have c1 := cell_of hpg 1
    simp [hp x hx] at c1
    clear hx hp h hpg
    go_enter Tryz.func10, Tryz.ntmps10
    go_wp2_with (go_at_call 33; refine hM.mono ?_; rintro e w' ⟨rfl, rfl⟩)
    go_ret
    exact ⟨rfl, H2.out, HU.out⟩

theorem srt_length {α : Type} : ∀ (l : List (Int × α)) (a b : Int), Srt l → (∀ q ∈ l, a ≤ q.1 ∧ q.1 < b) → a ≤ b → (l.length : Int) ≤ b - a
  | [], a, b, _, _, h => by simp; omega
  | p :: r, a, b, hs, hb, h => by
    obtain ⟨h1, h2⟩ := List.pairwise_cons.1 hs
    have hp := hb p (by simp)
    have := srt_length r (p.1 + 1) b h2 (fun q hq => ⟨by have := h1 q hq; omega, (hb q (by simp [hq])).2⟩) (by omega)
    simp; omega
theorem changed_length {S : Pgr} (h : S.Ok) : S.changed.length ≤ 8193 := by
  have := srt_length S.changed 0 8193 h.srtc (fun q hq => by have := isPage_bd (h.changed q hq).1; omega) (by omega)
  omega

set_option maxRecDepth 100000 in
set_option maxHeartbeats 1000000 in
theorem store_no {w : World} {L : PLoc} {S : Pgr} (h : PagerAt w L S) (i : Int) (s : ByteArray) (hwf : (Lit.int .i64 i).wf = true) (hsz : s.size ≤ 140737488355328) (e : Int)
    (he : (S.may i ≠ 0 ∧ e = S.may i) ∨ (S.may i = 0 ∧ s.size ≠ 256 ∧ e = 3) ∨ (S.may i = 0 ∧ s.size = 256 ∧ (∃ x, get i S.held = some x ∧ 0 < x.pins) ∧ e = 10)) :
    Calls Tryz.prog 10 #[.pointer (some ⟨L.p, 0, none⟩), .int .i64 i, .string s] w fun e' w' => e' = .returned (.int .i64 e) ∧ w = w' := by
  have hM := pmay_any h i
  have c2 := cell_of h.p 2
  simp at c2
  have hl2 := h.held.look (k := i) Tryz.underlying68 (zero_page _) hwf
  rw [heldV_eq, mapV_get] at hl2
  rcases he with ⟨hm, rfl⟩ | ⟨hm, hs, rfl⟩ | ⟨hm, hs, ⟨x, hx, hp⟩, rfl⟩
  · have hm' : (S.may i != 0) = true := by simpa using hm
    clear hm hl2 h
    generalize S.may i = m at *
    go_enter Tryz.func10, Tryz.ntmps10
    go_wp2_with (go_at_call 33; refine hM.mono ?_; rintro e w' ⟨rfl, rfl⟩)
    go_ret
    exact ⟨rfl, rfl⟩
  · rw [hm] at hM
    have hs' : (((s.size : Nat) : Int) != 256) = true := by simp; omega
    cases hx : get i S.held with
    | none =>
      rw [hx] at hl2
      simp at hl2
      clear hm hs h hx
      go_enter Tryz.func10, Tryz.ntmps10
      go_wp2_with (go_at_call 33; refine hM.mono ?_; rintro e w' ⟨rfl, rfl⟩)
      go_ret
      exact ⟨rfl, rfl⟩
    | some x =>
      rw [hx] at hl2
      simp at hl2
      clear hm hs h hx
      go_enter Tryz.func10, Tryz.ntmps10
      go_wp2_with (go_at_call 33; refine hM.mono ?_; rintro e w' ⟨rfl, rfl⟩)
      go_ret
      exact ⟨rfl, rfl⟩
  · rw [hm] at hM
    rw [hx] at hl2
    simp at hl2
    have hpg := h.page _ (get_mem hx)
    have c1 := cell_of hpg 1
    simp at c1
    have h1 : s.size ≤ 256 := by omega
    have h2 : 256 ≤ s.size := by omega
    clear hm hs h hx hpg
    go_enter Tryz.func10, Tryz.ntmps10
    go_wp2_with (go_at_call 33; refine hM.mono ?_; rintro e w' ⟨rfl, rfl⟩)
    go_ret
    exact ⟨rfl, rfl⟩

theorem store_at {w : World} {p d : Nat} {F : Nat → Prop} {S : Pgr} (h : PAt w p d F S) (i : Int) (s : ByteArray) (hwf : (Lit.int .i64 i).wf = true) (hsz : s.size ≤ 140737488355328) :
    Calls Tryz.prog 10 #[.pointer (some ⟨p, 0, none⟩), .int .i64 i, .string s] w fun e w' =>
      e = .returned (.int .i64 (S.store i s).1) ∧ Stp F w w' p d (S.store i s).2 := by
  have hso := store_ok (S := S) (by obtain ⟨_, _, _, _, _, hok⟩ := h; exact hok) i s
  have hP := h
  obtain ⟨L, rfl, rfl, hA, hF, hok⟩ := h
  have key : ∀ e, (S.store i s) = (e, S) → ((S.may i ≠ 0 ∧ e = S.may i) ∨ (S.may i = 0 ∧ s.size ≠ 256 ∧ e = 3) ∨ (S.may i = 0 ∧ s.size = 256 ∧ (∃ x, get i S.held = some x ∧ 0 < x.pins) ∧ e = 10)) →
      Calls Tryz.prog 10 #[.pointer (some ⟨L.p, 0, none⟩), .int .i64 i, .string s] w fun e w' =>
      e = .returned (.int .i64 (S.store i s).1) ∧ Stp F w w' L.p L.d (S.store i s).2 := fun e h1 h2 => by
    rw [h1]
    refine (store_no hA i s hwf hsz e h2).mono ?_
    rintro e' w' ⟨rfl, rfl⟩
    exact ⟨rfl, Stp.refl hP⟩
  have key2 : S.may i = 0 → s.size = 256 → (∀ x, get i S.held = some x → x.pins = 0) → S.store i s = (0, { S with held := del i S.held, changed := ins i s S.changed }) →
      Calls Tryz.prog 10 #[.pointer (some ⟨L.p, 0, none⟩), .int .i64 i, .string s] w fun e w' =>
      e = .returned (.int .i64 (S.store i s).1) ∧ Stp F w w' L.p L.d (S.store i s).2 := fun hm hs hp h1 => by
    rw [h1] at hso ⊢
    refine (store_yes hA hok i s hwf hm hs hp (by have := changed_length hok; omega)).mono ?_
    rintro e' w' ⟨rfl, hP1, hU1⟩
    refine ⟨rfl, Stp.same hF hP1 (fun b hb => ?_) hU1 hso⟩
    rcases hb with h | h | h | h | h | h | ⟨q, hq, h⟩
    · exact .inl h
    · exact .inr (.inl h)
    · exact .inr (.inr (.inl h))
    · exact .inr (.inr (.inr (.inl h)))
    · exact .inr (.inr (.inr (.inr (.inl h))))
    · exact .inr (.inr (.inr (.inr (.inr (.inl h)))))
    · exact .inr (.inr (.inr (.inr (.inr (.inr ⟨q, (List.mem_filter.1 hq).1, h⟩)))))
  by_cases hm : S.may i = 0
  · by_cases hs : s.size = 256
    · cases hx : get i S.held with
      | none => exact key2 hm hs (by rw [hx]; simp) (by unfold Pgr.store; rw [if_neg (by simpa using hm), if_neg (by simpa using hs), hx])
      | some x =>
        by_cases hp : 0 < x.pins
        · exact key 10 (by unfold Pgr.store; rw [if_neg (by simpa using hm), if_neg (by simpa using hs), hx]; simp only; rw [if_pos hp]) (.inr (.inr ⟨hm, hs, ⟨x, hx, hp⟩, rfl⟩))
        · have hx2 := (hok.held _ (get_mem hx)).2.1
          simp only at hx2
          exact key2 hm hs (fun y hy => by rw [hx] at hy; injection hy with hy; rw [← hy]; omega) (by unfold Pgr.store; rw [if_neg (by simpa using hm), if_neg (by simpa using hs), hx]; simp only; rw [if_neg hp])
    · exact key 3 (by unfold Pgr.store; rw [if_neg (by simpa using hm), if_pos hs]) (.inr (.inl ⟨hm, hs, rfl⟩))
  · exact key (S.may i) (by unfold Pgr.store; rw [if_pos hm]) (.inl ⟨hm, rfl⟩)

/-! 'Unpin' -/
set_option maxRecDepth 100000 in
set_option maxHeartbeats 1000000 in
theorem unpin_at {w : World} {p d : Nat} {F : Nat → Prop} {S : Pgr} (h : PAt w p d F S) (i : Int) (hwf : (Lit.int .i64 i).wf = true) (hpin : ∀ x, get i S.held = some x → x.pins < 4611686018427387904) :
    Calls Tryz.prog 20 #[.pointer (some ⟨p, 0, none⟩), .int .i64 i] w fun e w' =>
      e = .returned (.int .i64 (S.unpin i).1) ∧ Stp F w w' p d (S.unpin i).2 := by
  have hso := unpin_ok (S := S) (by obtain ⟨_, _, _, _, _, hok⟩ := h; exact hok) i
  have HP := Lib.hid h
  obtain ⟨L, rfl, rfl, hA, hF, hok⟩ := h
  have c2 := cell_of hA.p 2
  simp at c2
  have hl2 := hA.held.look (k := i) Tryz.underlying68 (zero_page _) hwf
  rw [heldV_eq, mapV_get] at hl2
  cases hx : get i S.held with
  | none =>
    have e1 : S.unpin i = (8, S) := by unfold Pgr.unpin; rw [hx]
    rw [e1]
    rw [hx] at hl2
    simp at hl2
    clear hx e1 hso hA hF hok hpin
    go_enter Tryz.func20, Tryz.ntmps20
    go_wp2
    go_ret
    exact ⟨rfl, Stp.refl HP.out⟩
  | some x =>
    rw [hx] at hl2
    simp at hl2
    have hpg := hA.page _ (get_mem hx)
    simp only at hpg
    have c1 := cell_of hpg 1
    have f1 := frozen_of hpg 1
    simp at c1
    have hx2 := (hok.held _ (get_mem hx)).2.1
    simp only at hx2
    by_cases hp : x.pins = 0
    · have e1 : S.unpin i = (8, S) := by unfold Pgr.unpin; rw [hx]; simp [hp]
      rw [e1]
      rw [hp] at c1
      clear hx e1 hso hA hF hok hpin hpg hp hx2
      go_enter Tryz.func20, Tryz.ntmps20
      go_wp2
      go_ret
      exact ⟨rfl, Stp.refl HP.out⟩
    · have e1 : S.unpin i = (0, { S with held := ins i { x with pins := x.pins - 1 } S.held }) := by unfold Pgr.unpin; rw [hx]; simp [hp]
      rw [e1] at hso ⊢
      have hp' : (x.pins == 0) = false := by simpa using hp
      have hlt := hpin x hx
      have H1 := Lib.hid (hA.turnPage hok.srt (i := i) (x := x) (y := { x with pins := x.pins - 1 }) hx (w' := w.setCell ⟨L.blk i, 1, none⟩ (.int .i64 (x.pins - 1))) (by rw [heap_setCell_same hpg]; simp) (fun b hb => Below.heap_setCell _ _ _ _ hb))
      have HU := Lib.hid ((Upd.refl (L.fp S) w).setCell ⟨L.blk i, 1, none⟩ (fun _ => .inr (.inr (.inr (.inr (.inr (.inr ⟨_, get_mem hx, rfl⟩)))))) (.int .i64 (x.pins - 1)))
      have HF := Lib.hid hF
      have HX := Lib.hid hx
      have HSO := Lib.hid hso
      clear hx e1 hso hA hF hok hpin hpg hp
      generalize hgp : x.pins = pn at *
      have HGP := Lib.hid hgp
      clear hgp
      go_enter Tryz.func20, Tryz.ntmps20
      go_wp2
      go_ret
      refine ⟨rfl, Stp.same HF.out H1.out (fun b hb => ?_) HU.out HSO.out⟩
      rcases hb with h | h | h | h | h | h | ⟨q, hq, h⟩
      · exact .inl h
      · exact .inr (.inl h)
      · exact .inr (.inr (.inl h))
      · exact .inr (.inr (.inr (.inl h)))
      · exact .inr (.inr (.inr (.inr (.inl h))))
      · exact .inr (.inr (.inr (.inr (.inr (.inl h)))))
      · rcases mem_ins hq with rfl | hq
        · exact .inr (.inr (.inr (.inr (.inr (.inr ⟨_, get_mem HX.out, h⟩)))))
        · exact .inr (.inr (.inr (.inr (.inr (.inr ⟨q, hq, h⟩)))))
end
/-! Pin2 -/
section
set_option linter.unusedSimpArgs false
set_option linter.unusedVariables false
open Go.RowKit Go.Maps

theorem hold_clock (S : Pgr) (i : Int) (s : ByteArray) : S.clock ≤ (S.hold i s).clock ∧ (S.hold i s).clock ≤ S.clock + 1 := by
  rw [Pgr.hold_eq]
  split
  · split
    · omega
    · simp [Pgr.holdIn]; omega
  · simp [Pgr.holdIn]; omega
theorem hold_get {S : Pgr} {i : Int} {s : ByteArray} (h : (S.full && (oldest S.held).isNone) = false) : ∃ ck, Hid (get i (S.hold i s).held = some ⟨s, 0, ck⟩) := by
  rw [Pgr.hold_eq]
  cases hF : S.full
  · rw [if_neg (by simp)]; exact ⟨_, get_ins_same⟩
  · rw [if_pos rfl]
    cases ho : oldest S.held with
    | none => simp [hF, ho] at h
    | some o => exact ⟨_, get_ins_same⟩

set_option maxRecDepth 100000 in
set_option maxHeartbeats 2000000 in
theorem pin_at {w : World} {p d : Nat} {F : Nat → Prop} {S : Pgr} (h : PAt w p d F S) (i : Int) (hwf : (Lit.int .i64 i).wf = true) (hc : S.clock < 4611686018427387900) (hr : S.reads < 4611686018427387904)
    (hpin : ∀ x, get i S.held = some x → x.pins < 4611686018427387904) :
    Calls Tryz.prog 19 #[.pointer (some ⟨p, 0, none⟩), .int .i64 i] w fun e w' =>
      e = .returned (.int .i64 (S.pin i).1) ∧ Stp F w w' p d (S.pin i).2 := by
  have HPO := Lib.hid (pin_ok (S := S) (by obtain ⟨_, _, _, _, _, hok⟩ := h; exact hok) i)
  have HP := Lib.hid h
  obtain ⟨L, rfl, rfl, hA, hF, hok⟩ := h
  have HF := Lib.hid hF
  have HOK := Lib.hid hok
  have HA := Lib.hid hA
  have HC := Lib.hid hc
  have HR0 := Lib.hid hr
  have hM := pmay_any hA i
  have c1 := cell_of hA.p 1
  have c2 := cell_of hA.p 2
  have c3 := cell_of hA.p 3
  simp at c1 c2 c3
  by_cases hm : S.may i = 0
  · have hl1 := hA.changed.look_ok (k := i) Tryz.underlying69 (zero_str _) hwf
    have hl2 := hA.held.look (k := i) Tryz.underlying68 (zero_page _) hwf
    rw [changedV_eq, mapV_get] at hl1
    rw [heldV_eq, mapV_get] at hl2
    rw [hm] at hM
    have HM := Lib.hid hm
    cases hcg : get i S.changed with
    | some s =>
      have e1 : S.pin i = (19, S) := by unfold Pgr.pin; rw [if_neg (by simpa using hm), hcg]
      rw [e1]
      rw [hcg] at hl1
      simp at hl1
      clear hl2 hcg e1 hm hF hA hok hpin hc hr
      go_enter Tryz.func19, Tryz.ntmps19
      go_wp2_with (go_at_call 33; refine hM.mono ?_; rintro e w' ⟨rfl, rfl⟩)
      go_ret
      exact ⟨rfl, Stp.refl HP.out⟩
    | none =>
      rw [hcg] at hl1
      simp at hl1
      have HCG := Lib.hid hcg
      cases hx : get i S.held with
      | some x =>
        have e1 : S.pin i = (0, S.use i { x with pins := x.pins + 1 }) := by unfold Pgr.pin; rw [if_neg (by simpa using hm), hcg, hx]
        have hpo := HPO.out
        rw [e1] at hpo ⊢
        have HPO' := Lib.hid hpo
        rw [hx] at hl2
        simp at hl2
        have hU := use_at hA hok.srt hx ⟨hok.clock, by omega⟩
        have hxm := (hok.held _ (get_mem hx)).2.1
        simp only at hxm
        have HX := Lib.hid hx
        have hpl := hpin x hx
        clear hcg e1 hm hF hA hok hx hpin hc hr hpo HPO
        go_enter Tryz.func19, Tryz.ntmps19
        go_wp2_with (go_at_call 33; refine hM.mono ?_; rintro e w' ⟨rfl, rfl⟩)
        refine hU.mono ?_
        rintro e w1 ⟨rfl, hP1, hU1⟩
        have hpg := hP1.page (i, { x with used := S.clock + 1 }) (get_mem get_ins_same)
        simp only at hpg
        have b1 := cell_of hpg 1
        have f1 := frozen_of hpg 1
        simp at b1
        have H4 := Lib.hid (hP1.turnPage (srt_ins HOK.out.srt) (i := i) (x := { x with used := S.clock + 1 }) (y := { x with used := S.clock + 1, pins := x.pins + 1 }) get_ins_same
          (w' := w1.setCell ⟨L.blk i, 1, none⟩ (.int .i64 (x.pins + 1))) (by rw [heap_setCell_same hpg]; simp) (fun b hb => Below.heap_setCell _ _ _ _ hb))
        have HU3 := Lib.hid (hU1.setCell ⟨L.blk i, 1, none⟩ (fun _ => .inr (.inr (.inr (.inr (.inr (.inr ⟨_, get_mem HX.out, rfl⟩)))))) (.int .i64 (x.pins + 1)))
        clear hP1 hU1 hpg hU
        go_wp2
        go_ret
        refine ⟨rfl, ?_⟩
        have h4 := H4.out
        simp only [Pgr.use, ins_ins] at h4
        exact Stp.same HF.out h4 (fun b hb => use_fp HX.out hb) HU3.out HPO'.out
      | none =>
        rw [hx] at hl2
        simp at hl2
        have HX := Lib.hid hx
        have hlen := fun n => (hA.held.congr (w' := w.drewN n) rfl).len Tryz.underlying68 3
        rw [heldV_eq, mapV_length] at hlen
        have hrb := hok.room
        clear hcg hm hF hA hok hx hpin hc hr
        cases hf : S.full
        · have hfull : (S.held.length : Int) < S.room := by simpa [Pgr.full] using hf
          have HFN := Lib.hid (show (S.full && (oldest S.held).isNone) = false by rw [hf]; simp)
          clear hf
          generalize hR : S.room = R at *
          have HR := Lib.hid hR
          clear hR
          generalize hln : S.held.length = ln at *
          have HLN := Lib.hid hln
          clear hln
          have hd : decide (R ≤ (ln : Int)) = false := by simpa using hfull
          go_enter Tryz.func19, Tryz.ntmps19
          go_wp2_with (go_at_call 33; refine hM.mono ?_; rintro e w' ⟨rfl, rfl⟩)
          go_quiet (fail)
          have hPX := HA.out.drewN nq
          have hUX := (Upd.refl (L.fp S) w).drewN nq
          generalize w.drewN nq = wX at *
          have HPX := Lib.hid hPX
          have HUX := Lib.hid hUX
          clear hPX hUX
          have hR := pread_at HPX.out i ⟨HOK.out.reads, HR0.out⟩
          by_cases hz : (S.disk.read i).2 = 0
          · have e1 : S.pin i = (0, (((S.read i).2.hold i (S.disk.read i).1)).use i ⟨(S.disk.read i).1, 1, 0⟩) := by
              unfold Pgr.pin; rw [if_neg (by simpa using HM.out), HCG.out, HX.out]; simp only; rw [if_neg (by rw [HFN.out]; simp), if_neg (by simpa using hz)]
            have HE1 := Lib.hid e1
            rw [hz] at hR
            have HSZ := Lib.hid (read_size HOK.out hz)
            clear e1 hz
            go_wp2_with fail
            refine hR.mono ?_
            rintro e w1 ⟨rfl, hP1, hU1⟩
            have HP1 := Lib.hid hP1
            have HU1 := Lib.hid hU1
            clear hP1 hU1 hR
            go_wp2_with fail
            obtain ⟨r1, r2, r3, r4, r5, _⟩ := read_held S i
            have HR1 := Lib.hid r1
            have hH := hold_at HP1.out (read_ok HOK.out i) i (S.disk.read i).1 (by rw [r1]; exact HX.out) (by rw [r4]; exact may_zero.1 HM.out) (by rw [r3]; have := HC.out; omega)
            have HFN' := Lib.hid (show ((S.read i).2.full && (oldest (S.read i).2.held).isNone) = false by rw [show (S.read i).2.full = S.full from by (unfold Pgr.full; rw [r1, r5]), r1]; exact HFN.out)
            have HCK := Lib.hid (show 0 ≤ ((S.read i).2.hold i (S.disk.read i).1).clock ∧ ((S.read i).2.hold i (S.disk.read i).1).clock < 4611686018427387904 by
              have h1 := hold_clock (S.read i).2 i (S.disk.read i).1; rw [r3] at h1; have := HC.out; have := HOK.out.clock; omega)
            have HHO := Lib.hid (hold_ok (read_ok HOK.out i) (s := (S.disk.read i).1) (by rw [r1]; exact HX.out) (by rw [r2]; exact HCG.out) (by rw [r4]; exact may_zero.1 HM.out) HSZ.out)
            obtain ⟨ck, HG⟩ : ∃ ck, Hid (get i ((S.read i).2.hold i (S.disk.read i).1).held = some ⟨(S.disk.read i).1, 0, ck⟩) := hold_get HFN'.out
            clear r1 r2 r3 r4 r5
            refine hH.mono ?_
            rintro e w2 ⟨L', v, rfl, hH2, _, hv⟩
            obtain rfl := hv HFN'.out
            clear hv
            have HH := Lib.hid hH2
            have e2 : L'.p = L.p := hH2.p
            have hu := use_at hH2.at_ HHO.out.srt HG.out HCK.out
            rw [e2] at hu
            have HE2 := Lib.hid e2
            clear hH hH2 e2
            go_wp2_with fail
            refine hu.mono ?_
            rintro e w3 ⟨rfl, hP3, hU3⟩
            have hpg := hP3.page (i, ⟨(S.disk.read i).1, 0, ((S.read i).2.hold i (S.disk.read i).1).clock + 1⟩) (get_mem get_ins_same)
            simp only at hpg
            have b1 := cell_of hpg 1
            have f1 := frozen_of hpg 1
            simp at b1
            have H4 := Lib.hid (hP3.turnPage (srt_ins HHO.out.srt) (i := i) (x := ⟨(S.disk.read i).1, 0, ((S.read i).2.hold i (S.disk.read i).1).clock + 1⟩) (y := ⟨(S.disk.read i).1, 1, ((S.read i).2.hold i (S.disk.read i).1).clock + 1⟩) get_ins_same
              (w' := w3.setCell ⟨L'.blk i, 1, none⟩ (.int .i64 1)) (by rw [heap_setCell_same hpg]; simp) (fun b hb => Below.heap_setCell _ _ _ _ hb))
            have HU3 := Lib.hid (hU3.setCell ⟨L'.blk i, 1, none⟩ (fun _ => .inr (.inr (.inr (.inr (.inr (.inr ⟨_, get_mem HG.out, rfl⟩)))))) (.int .i64 1))
            clear hP3 hU3 hpg hu
            go_wp2
            go_ret
            refine ⟨by rw [HE1.out]; rfl, ?_⟩
            have h4 := H4.out
            simp only [Pgr.use, ins_ins] at h4
            have h2 := HH.out
            have hpo := HPO.out
            rw [HE1.out] at hpo ⊢
            have rfp : ∀ b, L.fp (S.read i).2 b → L.fp S b := fun b hb => by unfold PLoc.fp at hb ⊢; rw [HR1.out] at hb; exact hb
            have hs := HUX.out.size
            have hs1 := HU1.out.size
            have hs2 := h2.upd.size
            have hs3 := HU3.out.size
            have ufp : ∀ b, L'.fp (((S.read i).2.hold i (S.disk.read i).1).use i ⟨(S.disk.read i).1, 1, 0⟩) b → L.fp S b ∨ (w.heap.size ≤ b ∧ b < w2.heap.size) := fun b hb => by
              rcases h2.fp b (use_fp HG.out hb) with h | h
              · exact .inl (rfp b h)
              · exact .inr ⟨by omega, h.2⟩
            refine ⟨⟨L', HE2.out, h2.d, h4, fun b hb => ?_, hpo⟩, ?_⟩
            · rcases ufp b hb with h | h
              · exact .inl (HF.out b h)
              · exact .inr ⟨h.1, by omega⟩
            · refine Upd.mono (F := L.fp S) ?_ fun b _ hb => HF.out b hb
              refine ((HUX.out.then HU1.out fun b _ hb => hb).then h2.upd fun b _ hb => rfp b hb).then HU3.out fun b hlt hb => ?_
              rcases h2.fp b hb with h | h
              · exact rfp b h
              · omega
          · have e1 : S.pin i = ((S.disk.read i).2, S) := by
              unfold Pgr.pin; rw [if_neg (by simpa using HM.out), HCG.out, HX.out]; simp only; rw [if_neg (by rw [HFN.out]; simp), if_pos hz]
            have hS : (S.read i).2 = S := by simp [Pgr.read, hz]
            rw [hS] at hR
            have HE1 := Lib.hid e1
            have hz' : ((S.disk.read i).2 != 0) = true := by simpa using hz
            clear e1 hz hS
            generalize hgr : (S.disk.read i).2 = er at *
            have HGR := Lib.hid hgr
            clear hgr
            go_wp2_with fail
            refine hR.mono ?_
            rintro e w1 ⟨rfl, hP1, hU1⟩
            have HP1 := Lib.hid hP1
            have HU1 := Lib.hid hU1
            clear hP1 hU1 hR
            go_wp2
            go_ret
            have hpo := HPO.out
            rw [HE1.out] at hpo ⊢
            exact ⟨rfl, Stp.same HF.out HP1.out (fun b hb => hb) (HUX.out.trans HU1.out) hpo⟩
        · have hfull : S.room ≤ (S.held.length : Int) := by simpa [Pgr.full] using hf
          have hO := fun W (hW : PagerAt W L S) => oldest_at hW HOK.out
          have hDU : Upd (L.fp S) w ({ w with drawn := w.drawn + 1 } : World) := (Upd.refl _ w).drew
          have hDR : PagerAt ({ w with drawn := w.drawn + 1 } : World) L S := HA.out.keep fun _ _ => rfl
          have hlen1 := (hDR.held).len Tryz.underlying68 3
          rw [heldV_eq, mapV_length] at hlen1
          have d1 : ({ w with drawn := w.drawn + 1 } : World).cell? ⟨L.p, 1, none⟩ = some (.int .i64 S.room) := c1
          have d2 : ({ w with drawn := w.drawn + 1 } : World).cell? ⟨L.p, 2, none⟩ = some (.map (some L.h)) := c2
          have HDR := Lib.hid hDR
          have HDU := Lib.hid hDU
          have HO := Lib.hid hO
          clear hDR hO hDU
          cases ho : oldest S.held with
          | none =>
            have hpo := HPO.out
            have e1 : S.pin i = (10, S) := by
              unfold Pgr.pin; rw [if_neg (by simpa using HM.out), HCG.out, HX.out]; simp only; rw [if_pos (by rw [hf, ho]; rfl)]
            rw [e1]
            have HOL := Lib.hid (show oldN S.held = -1 from by unfold oldN; rw [ho])
            clear hf e1 hpo ho
            generalize hR : S.room = R at *
            have HR := Lib.hid hR
            clear hR
            generalize hln : S.held.length = ln at *
            have HLN := Lib.hid hln
            clear hln
            have hd : decide (R ≤ (ln : Int)) = true := by simpa using hfull
            go_enter Tryz.func19, Tryz.ntmps19
            go_wp2_with (go_at_call 33; refine hM.mono ?_; rintro e w' ⟨rfl, rfl⟩)
            refine wp_region_still_tail 12 (by kernel_rfl) (by kernel_rfl) ?_
            generalize ({ w with drawn := w.drawn + 1 } : World) = wd at *
            simp only [List.take_succ_cons, List.take_zero, List.drop_succ_cons, List.drop_zero]
            repeat still_step
            refine wpStill_nil ?_
            go_wp2_with fail
            have h1 := HO.out _ HDR.out
            rw [HOL.out] at h1
            refine h1.mono ?_
            rintro e w1 ⟨rfl, hB⟩
            have HB := Lib.hid hB
            clear hB h1
            go_wp2
            go_ret
            have hP1 := below_pager HB.out HDR.out
            exact ⟨rfl, Stp.same HF.out hP1 (fun b hb => hb) (HDU.out.trans ⟨HB.out.os, HB.out.tape, HB.out.output, HB.out.size, fun b hb _ => HB.out.block b hb⟩) HOK.out⟩
          | some o =>
            have HFN := Lib.hid (show (S.full && (oldest S.held).isNone) = false by rw [ho]; simp)
            obtain ⟨xo, hmo, _⟩ := oldest_mem ho
            have ho0 : 0 ≤ o := (isPage_bd (HOK.out.held _ hmo).1).1
            have HOL := Lib.hid (show oldN S.held = o from by unfold oldN; rw [ho])
            clear hf ho hmo
            generalize hR : S.room = R at *
            have HR := Lib.hid hR
            clear hR
            generalize hln : S.held.length = ln at *
            have HLN := Lib.hid hln
            clear hln
            have hd : decide (R ≤ (ln : Int)) = true := by simpa using hfull
            go_enter Tryz.func19, Tryz.ntmps19
            go_wp2_with (go_at_call 33; refine hM.mono ?_; rintro e w' ⟨rfl, rfl⟩)
            refine wp_region_still_tail 12 (by kernel_rfl) (by kernel_rfl) ?_
            generalize ({ w with drawn := w.drawn + 1 } : World) = wd at *
            simp only [List.take_succ_cons, List.take_zero, List.drop_succ_cons, List.drop_zero]
            repeat still_step
            refine wpStill_nil ?_
            go_wp2_with fail
            have h1 := HO.out _ HDR.out
            rw [HOL.out] at h1
            refine h1.mono ?_
            rintro e wX ⟨rfl, hB⟩
            have hPX := below_pager hB HDR.out
            have hUX : Upd (L.fp S) w wX := HDU.out.trans ⟨hB.os, hB.tape, hB.output, hB.size, fun b hb _ => hB.block b hb⟩
            clear hB h1
            have HPX := Lib.hid hPX
            have HUX := Lib.hid hUX
            clear hPX hUX
            have hR := pread_at HPX.out i ⟨HOK.out.reads, HR0.out⟩
            by_cases hz : (S.disk.read i).2 = 0
            · have e1 : S.pin i = (0, (((S.read i).2.hold i (S.disk.read i).1)).use i ⟨(S.disk.read i).1, 1, 0⟩) := by
                unfold Pgr.pin; rw [if_neg (by simpa using HM.out), HCG.out, HX.out]; simp only; rw [if_neg (by rw [HFN.out]; simp), if_neg (by simpa using hz)]
              have HE1 := Lib.hid e1
              rw [hz] at hR
              have HSZ := Lib.hid (read_size HOK.out hz)
              clear e1 hz
              go_wp2_with fail
              refine hR.mono ?_
              rintro e w1 ⟨rfl, hP1, hU1⟩
              have HP1 := Lib.hid hP1
              have HU1 := Lib.hid hU1
              clear hP1 hU1 hR
              go_wp2_with fail
              obtain ⟨r1, r2, r3, r4, r5, _⟩ := read_held S i
              have HR1 := Lib.hid r1
              have hH := hold_at HP1.out (read_ok HOK.out i) i (S.disk.read i).1 (by rw [r1]; exact HX.out) (by rw [r4]; exact may_zero.1 HM.out) (by rw [r3]; have := HC.out; omega)
              have HFN' := Lib.hid (show ((S.read i).2.full && (oldest (S.read i).2.held).isNone) = false by rw [show (S.read i).2.full = S.full from by (unfold Pgr.full; rw [r1, r5]), r1]; exact HFN.out)
              have HCK := Lib.hid (show 0 ≤ ((S.read i).2.hold i (S.disk.read i).1).clock ∧ ((S.read i).2.hold i (S.disk.read i).1).clock < 4611686018427387904 by
                have h1 := hold_clock (S.read i).2 i (S.disk.read i).1; rw [r3] at h1; have := HC.out; have := HOK.out.clock; omega)
              have HHO := Lib.hid (hold_ok (read_ok HOK.out i) (s := (S.disk.read i).1) (by rw [r1]; exact HX.out) (by rw [r2]; exact HCG.out) (by rw [r4]; exact may_zero.1 HM.out) HSZ.out)
              obtain ⟨ck, HG⟩ : ∃ ck, Hid (get i ((S.read i).2.hold i (S.disk.read i).1).held = some ⟨(S.disk.read i).1, 0, ck⟩) := hold_get HFN'.out
              clear r1 r2 r3 r4 r5
              refine hH.mono ?_
              rintro e w2 ⟨L', v, rfl, hH2, _, hv⟩
              obtain rfl := hv HFN'.out
              clear hv
              have HH := Lib.hid hH2
              have e2 : L'.p = L.p := hH2.p
              have hu := use_at hH2.at_ HHO.out.srt HG.out HCK.out
              rw [e2] at hu
              have HE2 := Lib.hid e2
              clear hH hH2 e2
              go_wp2_with fail
              refine hu.mono ?_
              rintro e w3 ⟨rfl, hP3, hU3⟩
              have hpg := hP3.page (i, ⟨(S.disk.read i).1, 0, ((S.read i).2.hold i (S.disk.read i).1).clock + 1⟩) (get_mem get_ins_same)
              simp only at hpg
              have b1 := cell_of hpg 1
              have f1 := frozen_of hpg 1
              simp at b1
              have H4 := Lib.hid (hP3.turnPage (srt_ins HHO.out.srt) (i := i) (x := ⟨(S.disk.read i).1, 0, ((S.read i).2.hold i (S.disk.read i).1).clock + 1⟩) (y := ⟨(S.disk.read i).1, 1, ((S.read i).2.hold i (S.disk.read i).1).clock + 1⟩) get_ins_same
                (w' := w3.setCell ⟨L'.blk i, 1, none⟩ (.int .i64 1)) (by rw [heap_setCell_same hpg]; simp) (fun b hb => Below.heap_setCell _ _ _ _ hb))
              have HU3 := Lib.hid (hU3.setCell ⟨L'.blk i, 1, none⟩ (fun _ => .inr (.inr (.inr (.inr (.inr (.inr ⟨_, get_mem HG.out, rfl⟩)))))) (.int .i64 1))
              clear hP3 hU3 hpg hu
              go_wp2
              go_ret
              refine ⟨by rw [HE1.out]; rfl, ?_⟩
              have h4 := H4.out
              simp only [Pgr.use, ins_ins] at h4
              have h2 := HH.out
              have hpo := HPO.out
              rw [HE1.out] at hpo ⊢
              have rfp : ∀ b, L.fp (S.read i).2 b → L.fp S b := fun b hb => by unfold PLoc.fp at hb ⊢; rw [HR1.out] at hb; exact hb
              have hs := HUX.out.size
              have hs1 := HU1.out.size
              have hs2 := h2.upd.size
              have hs3 := HU3.out.size
              have ufp : ∀ b, L'.fp (((S.read i).2.hold i (S.disk.read i).1).use i ⟨(S.disk.read i).1, 1, 0⟩) b → L.fp S b ∨ (w.heap.size ≤ b ∧ b < w2.heap.size) := fun b hb => by
                rcases h2.fp b (use_fp HG.out hb) with h | h
                · exact .inl (rfp b h)
                · exact .inr ⟨by omega, h.2⟩
              refine ⟨⟨L', HE2.out, h2.d, h4, fun b hb => ?_, hpo⟩, ?_⟩
              · rcases ufp b hb with h | h
                · exact .inl (HF.out b h)
                · exact .inr ⟨h.1, by omega⟩
              · refine Upd.mono (F := L.fp S) ?_ fun b _ hb => HF.out b hb
                refine ((HUX.out.then HU1.out fun b _ hb => hb).then h2.upd fun b _ hb => rfp b hb).then HU3.out fun b hlt hb => ?_
                rcases h2.fp b hb with h | h
                · exact rfp b h
                · omega
            · have e1 : S.pin i = ((S.disk.read i).2, S) := by
                unfold Pgr.pin; rw [if_neg (by simpa using HM.out), HCG.out, HX.out]; simp only; rw [if_neg (by rw [HFN.out]; simp), if_pos hz]
              have hS : (S.read i).2 = S := by simp [Pgr.read, hz]
              rw [hS] at hR
              have HE1 := Lib.hid e1
              have hz' : ((S.disk.read i).2 != 0) = true := by simpa using hz
              clear e1 hz hS
              generalize hgr : (S.disk.read i).2 = er at *
              have HGR := Lib.hid hgr
              clear hgr
              go_wp2_with fail
              refine hR.mono ?_
              rintro e w1 ⟨rfl, hP1, hU1⟩
              have HP1 := Lib.hid hP1
              have HU1 := Lib.hid hU1
              clear hP1 hU1 hR
              go_wp2
              go_ret
              have hpo := HPO.out
              rw [HE1.out] at hpo ⊢
              exact ⟨rfl, Stp.same HF.out HP1.out (fun b hb => hb) (HUX.out.trans HU1.out) hpo⟩
  · have e1 : S.pin i = (S.may i, S) := by unfold Pgr.pin; rw [if_pos hm]
    rw [e1]
    have hm' : (S.may i != 0) = true := by simpa using hm
    clear e1 hm hF hA hok hpin hc hr
    generalize S.may i = m at *
    go_enter Tryz.func19, Tryz.ntmps19
    go_wp2_with (go_at_call 33; refine hM.mono ?_; rintro e w' ⟨rfl, rfl⟩)
    go_ret
    exact ⟨rfl, Stp.refl HP.out⟩
end
/-! Keys -/
section
set_option linter.unusedSimpArgs false
set_option linter.unusedVariables false
open Go.RowKit Go.Maps Go.Sort Go.Shelf

theorem sortsI (m : Nat) : AnyZI.SortsIn Tryz.prog Tryz.sortedI_ren Fence.wide m :=
  ⟨fun blk off cap ss W hH hblk hsz => callsIn_wide.2 (AnyM.slices_Sort_int Tryz.sortI blk off cap ss W hH hblk hsz),
   fun p cap W => callsIn_wide.2 (AnyM.slices_Sort_int_none Tryz.sortI p cap W)⟩

theorem intKeys_enc : ∀ l : List (Int × Value), intKeys (.map (encL l)) = l.map (·.1) := by
  intro l
  show List.map (fun p => Go.intOf p.1) (List.map (fun p : Int × Value => (Lit.int .i64 p.1, DataW.held p.2)) l) = _
  rw [List.map_map]
  rfl

/-- the keys of a sorted list of pairs, in whatever order they come, sorted -/
theorem keys_sorted {α : Type} {l : List (Int × α)} (hs : Srt l) {ss : List Int} (hp : ss.Perm (l.map (·.1))) : ss.mergeSort (fun x y => decide (x ≤ y)) = l.map (·.1) := by
  have h1 : (ss.mergeSort (fun x y => decide (x ≤ y))).Pairwise (fun x y => x ≤ y) := by
    have := List.pairwise_mergeSort (le := fun x y : Int => decide (x ≤ y)) (by intro a b c; simp; omega) (by intro a b; simp; omega) ss
    exact this.imp (by simp)
  have h2 : (l.map (·.1)).Pairwise (fun x y => x ≤ y) := by
    rw [List.pairwise_map]; exact hs.imp (by intro a b h; omega)
  exact ((List.mergeSort_perm ss _).trans hp).eq_of_pairwise (fun a b _ _ h1 h2 => Int.le_antisymm h1 h2) h1 h2

set_option maxRecDepth 100000 in
set_option maxHeartbeats 1000000 in
theorem dirty_at {w : World} {L : PLoc} {S : Pgr} (h : PagerAt w L S) (hok : S.Ok) :
    Calls Tryz.prog 17 #[.pointer (some ⟨L.p, 0, none⟩)] w fun e w' => ∃ v : Value, e = .returned v ∧
      w'.ownsRow w.heap.size 3 1 v S.changed.length ((S.changed.map (·.1)).map encZ) ∧ (v = .slice none 0 0 ↔ S.changed = []) ∧ Below w.heap.size w w' := by
  refine (callsIn_wide (n := 6)).1 ?_
  have hown := h.changed.own
  have hlt := h.changed.lt
  have hlen := changed_length hok
  have c3 := cell_of h.p 3
  simp at c3
  have hsz : Maps.size (DataW.map (encL (changedV S.changed))) ≤ 8193 := by simp [Maps.size, encL, changedV]; exact hlen
  have hseq : SeqGives Fence.wide 2 Tryz.prog 67 #[.pointer (some ⟨w.heap.size, 0, none⟩)] encZ (fun ss => ss.Perm (intKeys (.map (encL (changedV S.changed))))) (Maps.size (DataW.map (encL (changedV S.changed)))) (w.alloc (.cells #[.map (some L.c)] 69)) :=
    AnyZI.keys_gives (ρ := Tryz.keysS_ren) { Tryz.keysS with } Fence.wide _ trivial rfl (by omega) w.heap.size L.c _ _ _ (by simp) (by simp) (by
      obtain ⟨es, clock, hb, Ft, hs, hD⟩ := hown
      exact ⟨es, clock, (Below.heap_alloc _ _ L.c hlt).trans hb, Ft, hs, hD⟩)
  have cK : ∀ mb W, CallsIn Fence.wide 5 Tryz.prog 40 #[.map mb] W fun e w' => e = .returned (.func (.func 67) #[] #[.pointer (some ⟨W.heap.size, 0, none⟩)]) ∧ w' = W.alloc (.cells #[.map mb] 69) := fun mb W => AnyZI.keys_in Tryz.keysS Fence.wide 5 trivial rfl mb W
  have cS := AnyZI.sorted_in Tryz.sortedI Fence.wide 5 trivial trivial trivial trivial rfl (by omega) (sortsI _) (enters_of Tryz.func66 (by kernel_rfl) rfl) 67 #[.pointer (some ⟨w.heap.size, 0, none⟩)] trivial (enters_of Tryz.func67 (by kernel_rfl) rfl) _ _ (by unfold maxLen; omega) (by omega) _ hseq
  change CallsIn _ _ Tryz.prog 39 _ _ _ at cS
  have hfK : Fence.wide.fn 40 := trivial
  have hfS : Fence.wide.fn 39 := trivial
  have HS := Lib.hid hok.srtc
  clear hseq hlen hsz hown h hok
  refine callsIn_of_wp Tryz.func17 rfl trivial ?_ rfl
  simp only [Tryz.ntmps17, List.size_toArray, List.length_cons, List.length_nil, Nat.reduceAdd, Nat.reduceSub, Array.replicate_succ, Array.replicate_zero, List.push_toArray, List.append_toArray, List.nil_append, List.cons_append]
  gi_wp2_with (first
    | (gi_at_call 40; refine (cK _ _).mono ?_; rintro e w' ⟨rfl, rfl⟩)
    | (gi_at_call 39; refine cS.mono ?_; rintro e w' ⟨v, ss, rfl, hS, hrow, hnil, hb⟩))
  go_ret
  rw [intKeys_enc] at hS
  have hS' : ss.Perm (S.changed.map (·.1)) := by unfold changedV at hS; rw [List.map_map] at hS; exact hS
  have hk := keys_sorted HS.out hS'
  have hl : ss.length = S.changed.length := by rw [hS'.length_eq]; simp
  rw [hk, hl] at hrow
  refine ⟨v, rfl, ownsRow_base_a hrow (by simp), ?_, ((Below.refl _ w).alloc (Nat.le_refl _) _).trans (hb.mono (by simp))⟩
  rw [hnil]
  constructor
  · intro e; rw [e] at hl; exact List.eq_nil_of_length_eq_zero hl.symm
  · intro e; rw [e] at hl; exact List.eq_nil_of_length_eq_zero hl
end
/-! Held -/
section
set_option linter.unusedSimpArgs false
set_option linter.unusedVariables false
open Go.RowKit Go.Maps Go.Shelf

theorem drewN_drewN (w : World) (a b : Nat) : (w.drewN a).drewN b = w.drewN (a + b) := World.drewN_drewN w a b

set_option maxRecDepth 100000 in
set_option maxHeartbeats 1000000 in
/-- the comparison that Held sorts by -/
theorem heldcmp_at {w : World} {L : PLoc} {S : Pgr} (h : PagerAt w L S) (hok : S.Ok) (bx : Nat) (hbx : w.cell? ⟨bx, 0, none⟩ = some (.pointer (some ⟨L.p, 0, none⟩))) (a b : Int) (xa xb : Pg)
    (ha : get a S.held = some xa) (hb : get b S.held = some xb) (hc : S.clock < 4611686018427387904) :
    Calls Tryz.prog 44 #[.int .i64 a, .int .i64 b, .pointer (some ⟨bx, 0, none⟩)] w fun e w' => e = .returned (.int .i64 (xa.used - xb.used)) ∧ ∃ n, w' = w.drewN n := by
  have c2 := cell_of h.p 2
  simp at c2
  have ba := isPage_bd (hok.held _ (get_mem ha)).1
  have bb := isPage_bd (hok.held _ (get_mem hb)).1
  simp only at ba bb
  have hla : ∀ n, (Instr.lookup 68 (.map (some L.h)) (.int .i64 a) false).run Tryz.prog (w.drewN n) = .ok (.pointer (some ⟨L.blk a, 0, none⟩)) (w.drewN n) := fun n => by
    have := (h.drewN n).held.look (k := a) Tryz.underlying68 (zero_page _) (wf_small (by omega))
    rw [heldV_eq, mapV_get, ha] at this
    exact this
  have hlb : ∀ n, (Instr.lookup 68 (.map (some L.h)) (.int .i64 b) false).run Tryz.prog (w.drewN n) = .ok (.pointer (some ⟨L.blk b, 0, none⟩)) (w.drewN n) := fun n => by
    have := (h.drewN n).held.look (k := b) Tryz.underlying68 (zero_page _) (wf_small (by omega))
    rw [heldV_eq, mapV_get, hb] at this
    exact this
  have a2 := cell_of (h.page _ (get_mem ha)) 2
  have b2 := cell_of (h.page _ (get_mem hb)) 2
  simp at a2 b2
  have ua := (hok.held _ (get_mem ha)).2.2
  have ub := (hok.held _ (get_mem hb)).2.2
  simp only at ua ub
  obtain ⟨ua1, ua2, _⟩ := ua
  obtain ⟨ub1, ub2, _⟩ := ub
  clear h hok ha hb ba bb
  generalize S.clock = ck at *
  generalize xa.used = va at *
  generalize xb.used = vb at *
  have hw : IntKind.i64.wrap (va - vb) = va - vb := IntWalk.i64_in _ (by omega)
  go_enter Tryz.func44, Tryz.ntmps44
  go_wp2
  go_quiet (fail)
  go_wp2
  go_ret
  exact ⟨rfl, nq, rfl⟩
/-! the sort by uses -/
abbrev HKey (S : Pgr) := { k : Int // (get k S.held).isSome = true }
def usedOf (S : Pgr) (k : Int) : Int := match get k S.held with | some x => x.used | none => 0
abbrev encK (S : Pgr) (k : HKey S) : Value := .int .i64 k.1
def cmpK (S : Pgr) (a b : HKey S) : Int := usedOf S a.1 - usedOf S b.1

theorem swoK (S : Pgr) : Sort.SWO (ltOf (cmpK S)) :=
  ⟨fun x => decide_eq_false (by unfold cmpK; omega),
   fun x y z h1 h2 => by
    have h1 := of_decide_eq_true h1
    have h2 := of_decide_eq_true h2
    exact decide_eq_true (by unfold cmpK at *; omega),
   fun x y z h1 h2 => by
    have h1 := of_decide_eq_false h1
    have h2 := of_decide_eq_false h2
    exact decide_eq_false (by unfold cmpK at *; omega)⟩

theorem leK (S : Pgr) (x y : HKey S) : (!(ltOf (cmpK S)) y x) = true ↔ usedOf S x.1 ≤ usedOf S y.1 := by
  unfold ltOf cmpK
  rw [Bool.not_eq_true', decide_eq_false_iff_not]
  omega
theorem sortedK {S : Pgr} (hok : S.Ok) {ds : List (HKey S)} (hnd : (ds.map (·.1)).Nodup) {ms : List (HKey S)} (hms : ms = ds.mergeSort fun x y => !(ltOf (cmpK S)) y x) :
    (ms.map (·.1)).Perm (ds.map (·.1)) ∧ (ms.map (·.1)).Pairwise (fun a b => usedOf S a < usedOf S b) := by
  have hperm : ms.Perm ds := by rw [hms]; exact List.mergeSort_perm _ _
  refine ⟨hperm.map _, List.pairwise_map.2 ?_⟩
  have h1 : ms.Pairwise (fun x y => (!(ltOf (cmpK S)) y x) = true) := by
    rw [hms]
    refine List.pairwise_mergeSort (le := fun x y => !(ltOf (cmpK S)) y x) (fun a b c h1 h2 => ?_) (fun a b => ?_) ds
    · rw [leK] at *; omega
    · rw [Bool.or_eq_true, leK, leK]; omega
  have hnd2 : (ms.map (·.1)).Nodup := ((hperm.map (·.1)).nodup_iff).2 hnd
  have h2 : ms.Pairwise (fun x y => x.1 ≠ y.1) := List.pairwise_map.1 hnd2
  refine (h1.and h2).imp ?_
  intro x y ⟨h1, h2⟩
  rw [leK] at h1
  have h3 : usedOf S x.1 ≠ usedOf S y.1 := fun e => h2 (by
    obtain ⟨x, hx⟩ := x
    obtain ⟨y, hy⟩ := y
    obtain ⟨xa, ha⟩ := Option.isSome_iff_exists.1 hx
    obtain ⟨xb, hb⟩ := Option.isSome_iff_exists.1 hy
    unfold usedOf at e
    simp only [ha, hb] at e
    exact hok.used _ (get_mem ha) _ (get_mem hb) e)
  omega

theorem putRow_sub {p : Int → Prop} [Inhabited { k // p k }] (w : World) (blk off : Nat) (d : Array { k // p k }) :
    Sort.putRow (fun k : { k // p k } => Value.int .i64 k.1) w blk off d = Sort.putRow encZ w blk off (d.map (·.1)) := by
  refine Sort.mapBlock_congr _ _ _ _ fun c e fr _ => ?_
  unfold Sort.putCells
  apply Array.ext_getElem?
  intro k
  simp only [Array.getElem?_mapIdx, Array.size_map]
  congr 1
  funext x
  split
  · rename_i hk
    have h1 : k - off < d.size := by omega
    simp [h1]
  · rfl

theorem grownBy_sortWorld {α : Type} [Inhabited α] {enc : α → Value} {w : World} {g n : Nat} {os : Array Obj} (d : Array α) : w.grownBy (sortWorld enc w g 0 n d os) (some g) := by
  refine ⟨rfl, rfl, rfl, by simp [sortWorld], fun k hk hne => ?_⟩
  unfold sortWorld
  rw [Sort.heap_grow_old _ _ (by simpa using hk)]
  have : g ≠ k := fun e => hne (by rw [e])
  simp [Sort.putRow, Sort.mapBlock, Sort.ahead, Array.getElem?_modify, this]

set_option maxRecDepth 100000 in
set_option maxHeartbeats 1000000 in
theorem sortedFunc_at {w : World} {L : PLoc} {S : Pgr} (h : PagerAt w L S) (hok : S.Ok) (km bx : Nat) (hkl : km < w.heap.size) (hkm : w.cell? ⟨km, 0, none⟩ = some (.map (some L.h)))
    (hbl : bx < w.heap.size) (hbx : w.cell? ⟨bx, 0, none⟩ = some (.pointer (some ⟨L.p, 0, none⟩))) (hc : S.clock < 4611686018427387904) :
    Calls Tryz.prog 42 #[.func (.func 69) #[] #[.pointer (some ⟨km, 0, none⟩)], .func (.func 44) #[] #[.pointer (some ⟨bx, 0, none⟩)]] w fun e w' =>
      ∃ (v : Value) (ks : List Int), e = .returned v ∧ ks.Perm (S.held.map (·.1)) ∧ ks.Pairwise (fun a b => usedOf S a < usedOf S b) ∧
      w'.ownsRow w.heap.size 3 1 v ks.length (ks.map encZ) ∧ (v = .slice none 0 0 ↔ ks = []) ∧ Below w.heap.size w w' := by
  have hown := h.held.own
  have hlen : S.held.length ≤ 1024 := by have := hok.len; have := hok.room; omega
  have hsz : Maps.size (DataW.map (encL (heldV L.blk S.held))) ≤ 1024 := by simp [Maps.size, encL, heldV]; exact hlen
  have hseq : SeqGives Fence.wide 2 Tryz.prog 69 #[.pointer (some ⟨km, 0, none⟩)] encZ (fun ss => ss.Perm (intKeys (.map (encL (heldV L.blk S.held))))) (Maps.size (DataW.map (encL (heldV L.blk S.held)))) w :=
    AnyZI.keys_gives (ρ := Tryz.keysP_ren) { Tryz.keysP with } Fence.wide _ trivial rfl (by omega) km L.h _ _ _ hkl hkm hown
  have cC := (callsIn_wide (n := 4)).1 (AnyZI.collect_in (ρ := Tryz.sortedI_ren) { Tryz.sortedI with } Fence.wide 4 trivial trivial rfl (by omega) 69 #[.pointer (some ⟨km, 0, none⟩)] trivial (enters_of Tryz.func69 (by kernel_rfl) rfl) _ _ (by unfold maxLen; omega) (by omega) _ hseq)
  change Calls Tryz.prog 65 _ _ _ at cC
  have H := Lib.hid h
  have HOK := Lib.hid hok
  have HBX := Lib.hid hbx
  have HLEN := Lib.hid hlen
  clear hseq hsz hown h hok hkm hkl hlen
  go_enter Tryz.func42, Tryz.ntmps42
  go_wp2_with fail
  refine cC.mono ?_
  rintro e w1 ⟨v, ss, rfl, hS, hrow0, hnil, hB⟩
  have hrow : w1.ownsRow w.heap.size 3 1 v ss.length (ss.map encZ) := hrow0
  clear hrow0
  rw [intKeys_enc] at hS
  have hS' : ss.Perm (S.held.map (·.1)) := by unfold heldV at hS; rw [List.map_map] at hS; exact hS
  have HS := Lib.hid hS'
  have HB := Lib.hid hB
  have HRow := Lib.hid hrow
  have HP1 := Lib.hid (below_pager hB H.out)
  have HBX1 := Lib.hid ((hB.cell (p := ⟨bx, 0, none⟩) hbl).trans HBX.out)
  rcases hrow.2 with ⟨rfl, hz⟩ | ⟨g, cap, cur, rfl, hbase, hgb, r1, r2, r3, r4⟩
  · have hss : ss = [] := List.eq_nil_of_length_eq_zero hz
    subst hss
    clear hrow hnil hB hS hS' hz cC
    have cN := Tryz.slices_SortFunc_none (α := Nat) none 0 (.func (.func 44) #[] #[.pointer (some ⟨bx, 0, none⟩)]) w1
    go_wp2_with fail
    refine cN.mono ?_
    rintro e w2 ⟨rfl, rfl⟩
    go_wp2
    go_ret
    exact ⟨_, [], rfl, HS.out, by simp, by simpa using HRow.out, by simp, HB.out⟩
  · have hgl : g < w1.heap.size := lt_of hgb
    have hmem : ∀ x ∈ ss, (get x S.held).isSome = true := fun x hx => by
      obtain ⟨q, hq, rfl⟩ := List.mem_map.1 (hS'.mem_iff.1 hx)
      rw [mem_get HOK.out.srt hq]; rfl
    by_cases hne : ss = []
    · -- an empty slice in memory: not what Collect hands back
      exact absurd (hnil.2 hne) (by simp)
    · obtain ⟨x0, hx0⟩ := List.exists_mem_of_ne_nil ss hne
      letI : Inhabited (HKey S) := ⟨⟨x0, hmem x0 hx0⟩⟩
      obtain ⟨ds, hds⟩ : ∃ ds : List (HKey S), ds.map (·.1) = ss := ⟨ss.attach.map fun x => ⟨x.1, hmem x.1 x.2⟩, by simp⟩
      have hdl : ds.length = ss.length := by rw [← hds]; simp
      have hH : Sort.Holds (encK S) w1 g 0 ds.toArray := by
        have h1 := holds_of_block_i hgb (by simpa using r4)
        intro j hj
        have hj' : j < ds.length := by simpa using hj
        have := h1 j (by simpa [← hdl] using hj)
        rw [show (ss.toArray)[j]! = (ds.toArray[j]!).1 by subst hds; simp [hj']] at this
        exact this
      have hcmp : CmpLays1 Tryz.prog 44 #[.pointer (some ⟨bx, 0, none⟩)] (encK S) (cmpK S) g 0 ds.toArray.size w1 := by
        intro m os dk hs x y
        obtain ⟨x, hx⟩ := x
        obtain ⟨y, hy⟩ := y
        obtain ⟨xa, ha⟩ := Option.isSome_iff_exists.1 hx
        obtain ⟨xb, hb⟩ := Option.isSome_iff_exists.1 hy
        have hg := grownBy_sortWorld (enc := encK S) (w := w1) (g := g) (n := m) (os := os) dk
        have hlt : ∀ b, L.fp S b → b < g := fun b hb => Nat.lt_of_lt_of_le (H.out.fp_lt hb) hbase
        have hP2 : PagerAt (sortWorld (encK S) w1 g 0 m dk os) L S := HP1.out.keep fun b hb => hg.block b (HP1.out.fp_lt hb) (fun e => by injection e with e; have := hlt b hb; omega)
        have hb2 : (sortWorld (encK S) w1 g 0 m dk os).cell? ⟨bx, 0, none⟩ = some (.pointer (some ⟨L.p, 0, none⟩)) := hg.cell HBX1.out (fun e => by injection e with e; simp only at e; omega)
        refine (heldcmp_at hP2 HOK.out bx hb2 x y xa xb ha hb hc).mono ?_
        rintro e w' ⟨rfl, q, rfl⟩
        refine ⟨by simp [cmpK, usedOf, ha, hb], q, #[], ?_⟩
        rw [Sort.grow_empty]
      have cS := Tryz.slices_SortFunc_total (encK S) (fun _ => rfl) (cmpK S) (swoK S) 44 #[.pointer (some ⟨bx, 0, none⟩)] g 0 cap ds.toArray w1 (enters_of Tryz.func44 (by kernel_rfl) rfl) hcmp hH hgl
        (by simp; have := HLEN.out; have := hS'.length_eq; simp at this; omega)
        (fun x y h1 h2 => by
          obtain ⟨x, hx⟩ := x
          obtain ⟨y, hy⟩ := y
          obtain ⟨xa, ha⟩ := Option.isSome_iff_exists.1 hx
          obtain ⟨xb, hb⟩ := Option.isSome_iff_exists.1 hy
          simp [ltOf, cmpK, usedOf, ha, hb] at h1 h2
          have := HOK.out.used _ (get_mem ha) _ (get_mem hb) (by simp only; omega)
          simp only at this
          subst this; rfl)
      rw [show ds.toArray.size = ss.length by simp [hdl]] at cS
      have HDS := Lib.hid hds
      have HDL := Lib.hid hdl
      have HGB := Lib.hid hgb
      clear hrow hnil hB hS hS' hcmp hH cC hds hdl hne r4 HRow hgb
      go_wp2_with fail
      refine cS.mono ?_
      rintro e w2 ⟨rfl, n, os, rfl⟩
      clear cS
      go_wp2
      go_ret
      obtain ⟨ms, hms⟩ : ∃ ms : List (HKey S), ms = ds.mergeSort fun x y => !(ltOf (cmpK S)) y x := ⟨_, rfl⟩
      have hnd : (ds.map (·.1)).Nodup := by
        rw [HDS.out]
        refine (HS.out.nodup_iff).2 ?_
        have : (S.held.map (·.1)).Pairwise (fun x y => x < y) := by rw [List.pairwise_map]; exact HOK.out.srt
        exact this.imp (by intro a b h; omega)
      obtain ⟨hp, hpw⟩ := sortedK HOK.out hnd hms
      have hkl : (ms.map (·.1)).length = ss.length := by rw [hp.length_eq, HDS.out]
      generalize hks : ms.map (·.1) = ks at *
      refine ⟨_, ks, rfl, (hp.trans (by rw [HDS.out])).trans HS.out, hpw, ?_, ⟨fun e => by simp at e, fun e => ?_⟩, ?_⟩
      rotate_left
      · rw [e] at hkl
        have : ss = [] := List.eq_nil_of_length_eq_zero hkl.symm
        rw [this] at hx0; simp at hx0
      rotate_left
      · have hw : sortWorld (encK S) w1 g 0 n ms.toArray os = Sort.grow (Sort.putRow encZ (Sort.ahead w1 n) g 0 ks.toArray) os := by
          unfold sortWorld
          rw [show encK S = (fun k : HKey S => Value.int .i64 k.1) from rfl, putRow_sub]
          simp [← hks]
        rw [← hms, hw, hkl]
        exact ownsRow_sorted_i (by rw [hkl]) hbase HGB.out r1 r2 r3
      · rw [← hms]
        exact HB.out.grown (grownBy_sortWorld _) HB.out.size (fun j e => by injection e with e; rw [← e]; exact hbase)
theorem cell_new (w : World) (cs : Array Value) (T : TypeId) (i : Nat) : (w.alloc (.cells cs T)).cell? ⟨w.heap.size, i, none⟩ = cs[i]? := cell_of (heap_alloc_new' w _) i
theorem cell_old {w : World} (o : Obj) {b : Nat} (hb : b < w.heap.size) (i : Nat) : (w.alloc o).cell? ⟨b, i, none⟩ = w.cell? ⟨b, i, none⟩ := World.cell?_of_block (Below.heap_alloc w o b hb)

set_option maxRecDepth 100000 in
set_option maxHeartbeats 1000000 in
theorem held_at {w : World} {L : PLoc} {S : Pgr} (h : PagerAt w L S) (hok : S.Ok) (hc : S.clock < 4611686018427387904) :
    Calls Tryz.prog 21 #[.pointer (some ⟨L.p, 0, none⟩)] w fun e w' =>
      ∃ (v : Value) (ks : List Int), e = .returned v ∧ ks.Perm (S.held.map (·.1)) ∧ ks.Pairwise (fun a b => usedOf S a < usedOf S b) ∧
      w'.ownsRow w.heap.size 3 1 v ks.length (ks.map encZ) ∧ (v = .slice none 0 0 ↔ ks = []) ∧ Below w.heap.size w w' := by
  have hpl := lt_of h.p
  have c2 : ∀ o, (w.alloc o).cell? ⟨L.p, 2, none⟩ = some (.map (some L.h)) := fun o => by
    rw [World.cell?_of_block (Below.heap_alloc w o L.p hpl), cell_of h.p 2]; rfl
  have cK : ∀ mb W, Calls Tryz.prog 43 #[.map mb] W fun e w' => e = .returned (.func (.func 69) #[] #[.pointer (some ⟨W.heap.size, 0, none⟩)]) ∧ w' = W.alloc (.cells #[.map mb] 68) := fun mb W =>
    (callsIn_wide (n := 5)).1 (AnyZI.keys_in Tryz.keysP Fence.wide 5 trivial rfl mb W)
  have h2 : PagerAt ((w.alloc (.cells #[.pointer (some ⟨L.p, 0, none⟩)] 28)).alloc (.cells #[.map (some L.h)] 68)) L S :=
    h.keep fun b hb => (Below.heap_alloc _ _ b (by have := h.fp_lt hb; simp; omega)).trans (Below.heap_alloc _ _ b (h.fp_lt hb))
  have cS := sortedFunc_at h2 hok (w.heap.size + 1) w.heap.size (by simp) (by have := cell_new (w.alloc (.cells #[.pointer (some ⟨L.p, 0, none⟩)] 28)) #[.map (some L.h)] 68 0; rw [World.size_alloc] at this; exact this) (by simp; omega) (by rw [cell_old _ (by simp), cell_new]; rfl) hc
  clear h2 h
  go_enter Tryz.func21, Tryz.ntmps21
  go_wp2_with fail
  refine (cK _ _).mono ?_
  rintro e w1 ⟨rfl, rfl⟩
  go_wp2_with fail
  refine cS.mono ?_
  rintro e w2 ⟨v, ks, rfl, hp, hpw, hrow, hnil, hB⟩
  have HP := Lib.hid hp
  have HPW := Lib.hid hpw
  have HR := Lib.hid hrow
  have HN := Lib.hid hnil
  have HB := Lib.hid hB
  clear hp hpw hrow hnil hB cS
  go_wp2
  go_ret
  exact ⟨_, ks, rfl, HP.out, HPW.out, ownsRow_base_a HR.out (by simp; omega), HN.out, (((Below.refl _ w).alloc (Nat.le_refl _) _).alloc (by simp) _).trans (HB.out.mono (by simp; omega))⟩
end
/-! Make -/
section
set_option linter.unusedSimpArgs false
set_option linter.unusedVariables false
open Go.RowKit Go.Maps Go.Shelf

theorem info_u8 : (Tryz.prog.info? 5).map (fun i => (i.zero, i.size, i.bytes)) = some (some (.int .u8 0), 1, 1) := by kernel_rfl
theorem info_str : (Tryz.prog.info? 9).map (fun i => (i.zero, i.size, i.bytes)) = some (some (.string ⟨#[]⟩), 1, 16) := by kernel_rfl

def zerosB (n : Nat) : ByteArray := ⟨(List.replicate n (0 : UInt8)).toArray⟩
theorem zerosB_size (n : Nat) : (zerosB n).size = n := by simp [zerosB, ByteArray.size]
/-- a text made as long as a block -/
def blockB (s : ByteArray) : ByteArray := if 256 < s.size then s.extract 0 256 else s ++ zerosB (256 - s.size)
theorem blockB_size (s : ByteArray) : (blockB s).size = 256 := by
  unfold blockB
  split
  · simp [ByteArray.size_extract]; omega
  · rw [ByteArray.size_append, zerosB_size]; omega

theorem made_get (z : Value) (n j : Nat) (hz : z.cells = #[z]) (hj : j < n) : (madeCells z.cells n)[j]? = some z := by
  unfold madeCells
  rw [hz]
  simp [hj, Nat.mod_one]

set_option maxHeartbeats 400000 in
theorem zeros_any (n : Nat) (w : World) (hn : n ≤ 281474976710656) :
    Calls Tryz.prog 34 #[.int .i64 n] w fun e w' => e = .returned (.string (zerosB n)) ∧ Below w.heap.size w w' := by
  obtain ⟨i0, hi, hz0, hz1, hz2⟩ := info_parts info_u8
  have hmk := run_make (P := Tryz.prog) w 100 5 i0 (.int .u8 0) Tryz.underlying100 hi hz0 .i64 .i64 n n (by omega) (Int.le_refl _) (by rw [hz2]; omega) (by omega)
  rw [hz1, Nat.mul_one] at hmk
  simp only [Int.toNat_natCast] at hmk
  have hcv := run_convert_bytes_back (P := Tryz.prog) (w.alloc (.cells (madeCells (Value.int .u8 0).cells n) 5)) 100 9 5 ⟨w.heap.size, 0, none⟩ n (List.replicate n (0 : UInt8)) Tryz.underlying100 Tryz.underlying5 Tryz.underlying9 (by
    intro j hj
    have hj' : j < n := by simpa using hj
    have : (Addr.add ⟨w.heap.size, 0, none⟩ j) = ⟨w.heap.size, j, none⟩ := by unfold Addr.add; split <;> simp_all
    rw [this, cell_new, made_get _ _ _ rfl hj']
    simp)
  simp only [List.length_replicate] at hcv
  have HE : Hid (zerosB n = ⟨(List.replicate n (0 : UInt8)).toArray⟩) := rfl
  rw [← HE.out] at hcv
  clear hi hz0 hz1 hz2
  generalize zerosB n = zb at *
  generalize (Value.int .u8 0).cells = zc at *
  clear HE
  go_enter Tryz.func34, Tryz.ntmps34
  go_wp2
  go_ret
  exact ⟨rfl, (Below.refl _ w).alloc (Nat.le_refl _) _⟩

set_option maxHeartbeats 400000 in
theorem block_any (s : ByteArray) (w : World) (hs : s.size ≤ 9223372036854775807) :
    Calls Tryz.prog 12 #[.string s] w fun e w' => e = .returned (.string (blockB s)) ∧ Below w.heap.size w w' := by
  by_cases h : 256 < s.size
  · have he : blockB s = s.extract 0 256 := if_pos h
    rw [he]
    clear he
    go_enter Tryz.func12, Tryz.ntmps12
    go_wp2
    go_ret
    exact ⟨rfl, Below.refl _ w⟩
  · have he : blockB s = s ++ zerosB (256 - s.size) := if_neg h
    rw [he]
    have HE : Hid (((256 - s.size : Nat) : Int) = 256 - (s.size : Int)) := by show _ = _; omega
    have hz := zeros_any (256 - s.size) w (by omega)
    rw [HE.out] at hz
    have hle : s.size ≤ 256 := by omega
    have hzs := zerosB_size (256 - s.size)
    have HZ : (zerosB (256 - s.size)).size ≤ 256 := by omega
    clear he h hzs
    generalize zerosB (256 - s.size) = zb at *
    go_enter Tryz.func12, Tryz.ntmps12
    go_wp2_with (go_at_call 34; refine hz.mono ?_; rintro e w' ⟨rfl, hB⟩)
    go_ret
    exact ⟨rfl, hB⟩
/-- k copies of a text, ahead of empty ones -/
def halfRow (s : ByteArray) (k n : Nat) : List Value := List.replicate k (.string s) ++ List.replicate (n - k) (.string ⟨#[]⟩)
theorem halfRow_length {s : ByteArray} {k n : Nat} (h : k ≤ n) : (halfRow s k n).length = n := by simp [halfRow]; omega
theorem halfRow_get {s : ByteArray} {k n j : Nat} (h : j < k) : (halfRow s k n)[j]? = some (.string s) := by
  simp [halfRow, List.getElem?_append, h]
theorem halfRow_splice {s : ByteArray} {k n m : Nat} (h : k + m ≤ n) : splice (halfRow s k n) k (List.replicate m (.string s)) = halfRow s (k + m) n := by
  unfold splice halfRow
  have e1 : (List.replicate k (Value.string s) ++ List.replicate (n - k) (Value.string ⟨#[]⟩)).take k = List.replicate k (Value.string s) := by simp
  have e2 : (List.replicate k (Value.string s) ++ List.replicate (n - k) (Value.string ⟨#[]⟩)).drop (k + (List.replicate m (Value.string s)).length) = List.replicate (n - (k + m)) (Value.string ⟨#[]⟩) := by
    rw [List.length_replicate, List.drop_append]
    simp
    omega
  rw [e1, e2, ← List.append_assoc, List.replicate_append_replicate]

/-- one copy within a row, or into it: m copies more -/
theorem copy_half {w : World} {G g0 : Nat} {s : ByteArray} {k m n sl sc dl dc so : Nat} (hrow : w.heap[G]? = some (.cells (halfRow s k n).toArray 9 (0, 0))) (hkm : k + m ≤ n) (hm : m = Nat.min sl dl)
    (hsrc : ∀ j, j < m → w.cell? ⟨g0, so + j, none⟩ = some (.string s)) :
    ∃ w', (Builtin.copy_ #[37, 37] 3 #[.slice (some ⟨G, k, none⟩) dl dc, .slice (some ⟨g0, so, none⟩) sl sc]).run Tryz.prog w = .ok (.int .i64 m) w' ∧
      w'.heap[G]? = some (.cells (halfRow s (k + m) n).toArray 9 (0, 0)) ∧ (∀ B w0, Below B w0 w → B ≤ G → Below B w0 w') := by
  obtain ⟨i0, hi, hz0, hz1, hz2⟩ := info_parts info_str
  have hsz : (Tryz.prog.info? 9).map (·.size) = some 1 := by rw [hi]; simp [hz1]
  have hl := halfRow_length (s := s) (k := k) (n := n) (by omega)
  have hrun := run_copy_row (P := Tryz.prog) w 37 37 3 9 G k dl dc ⟨g0, so, none⟩ sl sc (halfRow s k n).toArray 9 (List.replicate m (.string s)) Tryz.underlying37 hsz hrow (by simpa using hm)
    (fun j v hj => by
      have hjm : j < m := by have := (List.getElem?_eq_some_iff.1 hj).1; simpa using this
      have hv : v = .string s := by
        rw [List.getElem?_replicate] at hj; simp [hjm] at hj; exact hj.symm
      have : (Addr.add ⟨g0, so, none⟩ j) = ⟨g0, so + j, none⟩ := by unfold Addr.add; split <;> simp_all
      rw [this, hsrc j hjm, hv])
    (by simp [hl]; exact hkm) (by simp [Value.oneCell'])
  refine ⟨_, by simpa [goInt] using hrun, ?_, fun B w0 hb hBG => below_setRow hb hBG _⟩
  rw [setRow_heap w G _ _ _ _ hrow, ← halfRow_splice hkm]
  simp [splice]

set_option maxRecDepth 100000 in
set_option maxHeartbeats 1000000 in
theorem repeat_any (s : ByteArray) (n g0 : Nat) (w : World) (hn1 : 1 ≤ n) (hn2 : n ≤ 2048) (hsrc : w.cell? ⟨g0, 0, none⟩ = some (.string s)) (hg0 : g0 < w.heap.size) :
    Calls Tryz.prog 32 #[.slice (some ⟨g0, 0, none⟩) 1 1, .int .i64 n] w fun e w' => ∃ G, e = .returned (.slice (some ⟨G, 0, none⟩) n n) ∧
      w'.heap[G]? = some (.cells (List.replicate n (Value.string s)).toArray 9 (0, 0)) ∧ w.heap.size ≤ G ∧ Below w.heap.size w w' := by
  obtain ⟨i0, hi, hz0, hz1, hz2⟩ := info_parts info_str
  have hmk := fun W : World => run_make (P := Tryz.prog) W 37 9 i0 (.string ⟨#[]⟩) Tryz.underlying37 hi hz0 .i64 .i64 n n (by omega) (Int.le_refl _) (by rw [hz2]; omega) (by omega)
  rw [hz1, Nat.mul_one] at hmk
  simp only [Int.toNat_natCast] at hmk
  have hsz : (Tryz.prog.info? 9).map (·.size) = some 1 := by rw [hi]; simp [hz1]
  have hmul := Tryz.bits_Mul 1 n (by omega) (by omega) w
  rw [Nat.one_mul, Nat.div_eq_of_lt (by omega), Nat.mod_eq_of_lt (by omega)] at hmul
  have hmade : madeCells (Value.string ⟨#[]⟩).cells n = (halfRow s 0 n).toArray := by
    apply Array.ext_getElem?
    intro j
    by_cases hj : j < n
    · rw [made_get _ _ _ rfl hj]
      simp [halfRow, hj]
    · have h1 : ¬ j < (madeCells (Value.string ⟨#[]⟩).cells n).size := by rw [size_madeCells]; omega
      rw [Array.getElem?_eq_none (by omega), Array.getElem?_eq_none (by simp [halfRow]; omega)]
  rw [hmade] at hmk
  have HSZ := Lib.hid hsz
  have hhr : (halfRow s 0 n).length = n := halfRow_length (by omega)
  clear hi hz0 hz1 hz2 hmade hsz
  have HR := Lib.hid hhr
  clear hhr
  have HSRC := Lib.hid hsrc
  clear hsrc
  obtain ⟨w2, hcp, hrow2, hB2⟩ := copy_half (w := w.alloc (.cells (halfRow s 0 n).toArray 9)) (G := w.heap.size) (g0 := g0) (s := s) (k := 0) (m := 1) (n := n) (sl := 1) (sc := 1) (dl := n) (dc := n) (so := 0)
    (heap_alloc_new' w _) (by omega) (show Nat.min 1 n = 1 from Nat.min_eq_left hn1).symm (fun j hj => by obtain rfl : j = 0 := (by omega); exact (cell_old _ hg0 0).trans HSRC.out)
  have HB2 := Lib.hid (hB2 w.heap.size w ((Below.refl _ w).alloc (Nat.le_refl _) _) (Nat.le_refl _))
  rw [Nat.zero_add] at hrow2
  have HROW := Lib.hid hrow2
  clear hB2 hrow2
  go_enter Tryz.func32, Tryz.ntmps32
  go_wp2_with (go_at_call 52; refine hmul.mono ?_; rintro e w' ⟨rfl, hw⟩; obtain rfl := hw.symm; clear hw)
  go_loopw [8] (fun v wr => ∃ k : Nat, v = .int .i64 k ∧ 1 ≤ k ∧ k ≤ n ∧ Hid (wr.heap[w.heap.size]? = some (.cells (halfRow s k n).toArray 9 (0, 0))) ∧ Below w.heap.size w wr) (fun v _ => n - (intOf v).toNat)
  case atStart => exact ⟨1, rfl, by omega, by omega, HROW, HB2.out⟩
  case round =>
    obtain ⟨k, rfl, hk1, hk2, HK, hB⟩ := hrel
    clear hcp hmk hmul
    by_cases hlt : k < n
    · obtain ⟨m, hm⟩ : ∃ m, m = Nat.min k (n - k) := ⟨_, rfl⟩
      have hm1 : 1 ≤ m ∧ k + m ≤ n := by
        have : Nat.min k (n - k) = if k ≤ n - k then k else n - k := Nat.min_def
        rw [this] at hm; split at hm <;> omega
      have hrow : wr.drew.heap[w.heap.size]? = some (.cells (halfRow s k n).toArray 9 (0, 0)) := HK.out
      have hBd : Below w.heap.size w wr.drew := hB.drew
      have hmk : m ≤ k := by
        have : Nat.min k (n - k) = if k ≤ n - k then k else n - k := Nat.min_def
        rw [this] at hm; split at hm <;> omega
      obtain ⟨w3, hcp, hrow3, hB3⟩ := copy_half (G := w.heap.size) (g0 := w.heap.size) (s := s) (k := k) (m := m) (n := n) (sl := k) (sc := n) (dl := n - k) (dc := n - k) (so := 0) hrow hm1.2 hm
        (fun j hj => by rw [Nat.zero_add, cell_of hrow j, List.getElem?_toArray, halfRow_get (by omega)])
      have HB3 := Lib.hid (hB3 _ _ hBd (Nat.le_refl _))
      have HR3 := Lib.hid hrow3
      obtain ⟨hm2, hm3⟩ := hm1
      have hw : IntKind.i64.wrap ((k : Int) + (m : Int)) = (k : Int) + (m : Int) := IntWalk.i64_in _ (by omega)
      clear hrow hBd hB3 hrow3 hm hB HK
      go_wp2
      go_region
      all_goals go_wp2
      go_roundw
      case rel => exact ⟨k + m, by go_num, by omega, by omega, HR3, HB3.out⟩
      case measure => simp [intOf]; omega
    · obtain rfl : n = k := by omega
      go_wp2
      go_ret
      refine ⟨_, rfl, ?_, Nat.le_refl _, hB⟩
      have := HK.out
      rw [show halfRow s n n = List.replicate n (Value.string s) by simp [halfRow]] at this
      exact this

theorem many_any (n : Int) (w : World) :
    Calls Tryz.prog 30 #[.int .i64 n] w fun e w' => e = .returned (.bool (decide (64 ≤ n) && decide (n ≤ 2048))) ∧ w = w' := by
  by_cases h : 64 ≤ n
  · go_enter Tryz.func30, Tryz.ntmps30
    go_wp2
    go_ret
    exact ⟨by simp [h], rfl⟩
  · have hd : decide (64 ≤ n) = false := by simpa using h
    go_enter Tryz.func30, Tryz.ntmps30
    go_wp2
    go_ret
    exact ⟨by simp [hd], rfl⟩

/-- a disk of empty blocks -/
def newDsk (n : Nat) : Dsk := ⟨List.replicate n (zerosB 256), [], 0, false, false⟩

theorem repeatL_zero (n : Nat) : Lib.repeatL [(0 : UInt8)] n = List.replicate n 0 := by
  induction n with
  | zero => rfl
  | succ n ih => simp [Lib.repeatL, List.replicate_succ] at ih ⊢; exact ih

set_option maxRecDepth 100000 in
set_option maxHeartbeats 1000000 in
theorem diskNew_any (n : Nat) (w : World) (h1 : 64 ≤ n) (h2 : n ≤ 2048) :
    Calls Tryz.prog 8 #[.int .i64 n] w fun e w' => ∃ d bb, e = .returned (.tuple #[.pointer (some ⟨d, 0, none⟩), .int .i64 0]) ∧
      DiskAt w' d bb (.slice none 0 0) (newDsk n) ∧ w.heap.size ≤ d ∧ w.heap.size ≤ bb ∧ Below w.heap.size w w' := by
  have hm := many_any n w
  have hd1 : decide ((64 : Int) ≤ n) = true := by simp; omega
  have hd2 : decide ((n : Int) ≤ 2048) = true := by simp; omega
  rw [hd1, hd2] at hm
  have hrp := Tryz.strings_Repeat ⟨#[0]⟩ 256 w (by omega) (by simp [ByteArray.size])
  have HZ : Hid ((⟨(Lib.repeatL (⟨#[0]⟩ : ByteArray).data.toList 256).toArray⟩ : ByteArray) = zerosB 256) := by
    show _ = _; unfold zerosB; rw [show (⟨#[0]⟩ : ByteArray).data.toList = [(0 : UInt8)] from rfl, repeatL_zero]
  rw [HZ.out] at hrp
  clear hd1 hd2 HZ
  generalize hz : zerosB 256 = zb at *
  have HZB := Lib.hid hz
  clear hz
  go_enter Tryz.func8, Tryz.ntmps8
  go_wp2_with fail
  refine hm.mono ?_
  rintro e w' ⟨rfl, rfl⟩
  go_wp2_with fail
  refine hrp.mono ?_
  rintro e w1 ⟨rfl, hB1⟩
  go_wp2_with fail
  have hrep := repeat_any zb n w1.heap.size (w1.alloc (.cells #[.string zb] 9)) (by omega) h2 (by rw [cell_new]; rfl) (by simp)
  refine hrep.mono ?_
  rintro e w2 ⟨G, rfl, hG, hGs, hB2⟩
  have HG := Lib.hid hG
  have HB1 := Lib.hid hB1
  have HB2 := Lib.hid hB2
  have hGs' : w1.heap.size + 1 ≤ G := by simpa using hGs
  clear hG hB1 hB2 hrep hrp hm hGs
  go_wp2
  go_ret2
  have hs1 := HB1.out.size
  have hs2 := HB2.out.size
  simp at hs2
  refine ⟨w2.heap.size, G, rfl, ⟨?_, ?_, ?_⟩, by omega, by omega, ?_⟩
  · rw [heap_alloc_new']; simp [newDsk]
  · rw [Below.heap_alloc _ _ _ (lt_of HG.out), HG.out]; simp [newDsk, HZB.out]
  · exact World.ownsRow_nil _ _ _ _
  · exact ((HB1.out.alloc hs1 _).trans (HB2.out.mono (by simp; omega))).alloc (by omega) _
end
/-! Wakes -/
section
set_option linter.unusedSimpArgs false
set_option linter.unusedVariables false
open Go.RowKit Go.Maps Go.Shelf

def newPgr (D : Dsk) (room : Int) : Pgr := ⟨D, room, [], [], 0, 0⟩
theorem newPgr_ok {D : Dsk} {room : Int} (h1 : 1 ≤ room) (h2 : room ≤ 1024) (hb : 64 ≤ D.blocks.length ∧ D.blocks.length ≤ 2048) (hs : ∀ s ∈ D.blocks, s.size = 256) : (newPgr D room).Ok :=
  ⟨⟨h1, h2⟩, by simp [newPgr]; omega, List.Pairwise.nil, List.Pairwise.nil, by simp [newPgr], by simp [newPgr], by simp [newPgr], by simp [newPgr], hb, hs, Int.le_refl _, Int.le_refl _⟩

set_option maxRecDepth 100000 in
set_option maxHeartbeats 1000000 in
theorem pagerNew_ok {w : World} {d bb : Nat} {lg : Value} {D : Dsk} (h : DiskAt w d bb lg D) (room : Int) (h1 : 1 ≤ room) (h2 : room ≤ 1024) (hb : 64 ≤ D.blocks.length ∧ D.blocks.length ≤ 2048) (hs : ∀ s ∈ D.blocks, s.size = 256) :
    Calls Tryz.prog 9 #[.pointer (some ⟨d, 0, none⟩), .int .i64 room] w fun e w' => ∃ p, e = .returned (.tuple #[.pointer (some ⟨p, 0, none⟩), .int .i64 0]) ∧ w.heap.size ≤ p ∧
      PAt w' p d (fun b => (b = d ∨ b = bb ∨ lg.ownBlock = some b) ∨ (w.heap.size ≤ b ∧ b < w'.heap.size)) (newPgr D room) ∧ Below w.heap.size w w' := by
  have H := Lib.hid h
  have HOK := Lib.hid (newPgr_ok h1 h2 hb hs)
  clear h hb hs
  have hmm := @run_makeMap Tryz.prog
  go_enter Tryz.func9, Tryz.ntmps9
  go_wp2
  go_ret2
  have hd := lt_of H.out.d
  have hbb := lt_of H.out.bb
  refine ⟨_, rfl, by omega, ⟨⟨w.heap.size + 1 + 1, d, bb, w.heap.size, w.heap.size + 1, lg, fun _ => 0⟩, rfl, rfl, ⟨?_, ?_, ?_, ?_, ?_, ?_, ?_⟩, ?_, HOK.out⟩, ?_⟩
  · have := heap_alloc_new' ((w.alloc (.map #[] 0)).alloc (.map #[] 0)) (.cells #[.pointer (some ⟨d, 0, none⟩), .int .i64 room, .map (some w.heap.size), .map (some (w.heap.size + 1)), .int .i64 0, .int .i64 0] 71)
    rw [World.size_alloc, World.size_alloc] at this
    exact this
  · exact H.out.keep fun b _ _ _ hb _ _ => by
      have hl := lt_of hb
      rw [Below.heap_alloc _ _ _ (by simp; omega), Below.heap_alloc _ _ _ (by simp; omega), Below.heap_alloc _ _ _ hl]
  · exact (MapV.made w).congr (by rw [Below.heap_alloc _ _ _ (by simp; omega), Below.heap_alloc _ _ _ (by simp)])
  · have := MapV.made (w.alloc (.map #[] 0))
    rw [World.size_alloc] at this
    exact this.congr (by rw [Below.heap_alloc _ _ _ (by simp)])
  · simp [newPgr]
  · simp
  · simp [newPgr]
  · intro b hb
    simp only [World.size_alloc]
    rcases hb with h | h | h | h | h | h | ⟨q, hq, h⟩
    · simp only at h; exact .inr (by omega)
    · exact .inl (.inl h)
    · exact .inl (.inr (.inl h))
    · simp only at h; exact .inr (by omega)
    · simp only at h; exact .inr (by omega)
    · exact .inl (.inr (.inr h))
    · simp [newPgr] at hq
  · exact (((Below.refl _ w).alloc (Nat.le_refl _) _).alloc (by simp) _).alloc (by simp; omega) _
end
/-! In -/
section
set_option linter.unusedSimpArgs false
set_option linter.unusedVariables false
open Go.RowKit Go.Maps Go.Shelf

/-- a pager that lies in what was made since w0, on blocks F; below that nothing has turned -/
structure PIn (w0 w : World) (p d : Nat) (F : Nat → Prop) (S : Pgr) : Prop where
  pat : PAt w p d F S
  new : ∀ b, F b → w0.heap.size ≤ b
  below : Below w0.heap.size w0 w

theorem PAt.ok {w : World} {p d : Nat} {F : Nat → Prop} {S : Pgr} (h : PAt w p d F S) : S.Ok := by obtain ⟨_, _, _, _, _, hok⟩ := h; exact hok
theorem PIn.ok {w0 w : World} {p d : Nat} {F : Nat → Prop} {S : Pgr} (h : PIn w0 w p d F S) : S.Ok := h.pat.ok
theorem PIn.stp {w0 w w' : World} {p d : Nat} {F : Nat → Prop} {S S' : Pgr} (h : PIn w0 w p d F S) (k : Stp F w w' p d S') : PIn w0 w' p d (ext F w w') S' := by
  have hs := h.below.size
  refine ⟨k.pat, fun b hb => ?_, h.below.trans (k.upd.toBelow hs fun x hx hf => by have := h.new x hf; omega)⟩
  rcases hb with hb | hb
  · exact h.new b hb
  · omega
theorem PIn.made {w0 w w' : World} {p d : Nat} {F : Nat → Prop} {S : Pgr} (h : PIn w0 w p d F S) (k : Below w.heap.size w w') : PIn w0 w' p d F S := by
  have hs := h.below.size
  obtain ⟨⟨L, hp, hd, hA, hF, hok⟩, hn, hB⟩ := h
  exact ⟨⟨L, hp, hd, below_pager k hA, hF, hok⟩, hn, hB.trans (k.mono hs)⟩
theorem PIn.alloc {w0 w : World} {p d : Nat} {F : Nat → Prop} {S : Pgr} (h : PIn w0 w p d F S) (o : Obj) : PIn w0 (w.alloc o) p d F S := h.made ((Below.refl _ w).alloc (Nat.le_refl _) o)
theorem PIn.drewN {w0 w : World} {p d : Nat} {F : Nat → Prop} {S : Pgr} (h : PIn w0 w p d F S) (n : Nat) : PIn w0 (w.drewN n) p d F S :=
  h.made ⟨rfl, rfl, rfl, Nat.le_refl _, fun _ _ => rfl⟩

section
variable {w0 w : World} {p d : Nat} {F : Nat → Prop} {S : Pgr}
theorem load_in (h : PIn w0 w p d F S) (i : Int) (hwf : (Lit.int .i64 i).wf = true) (hc : S.clock < 4611686018427387904) (hr : S.reads < 4611686018427387904) :
    Calls Tryz.prog 16 #[.pointer (some ⟨p, 0, none⟩), .int .i64 i] w fun e w' =>
      e = .returned (.tuple #[.string (S.load i).1.1, .int .i64 (S.load i).1.2]) ∧ PIn w0 w' p d (ext F w w') (S.load i).2 ∧ Upd F w w' :=
  (load_at h.pat i hwf hc hr).mono fun _ _ ⟨he, hs⟩ => ⟨he, h.stp hs, hs.upd⟩
theorem store_in (h : PIn w0 w p d F S) (i : Int) (s : ByteArray) (hwf : (Lit.int .i64 i).wf = true) (hsz : s.size ≤ 140737488355328) :
    Calls Tryz.prog 10 #[.pointer (some ⟨p, 0, none⟩), .int .i64 i, .string s] w fun e w' =>
      e = .returned (.int .i64 (S.store i s).1) ∧ PIn w0 w' p d (ext F w w') (S.store i s).2 ∧ Upd F w w' :=
  (store_at h.pat i s hwf hsz).mono fun _ _ ⟨he, hs⟩ => ⟨he, h.stp hs, hs.upd⟩
theorem unpin_in (h : PIn w0 w p d F S) (i : Int) (hwf : (Lit.int .i64 i).wf = true) (hpin : ∀ x, get i S.held = some x → x.pins < 4611686018427387904) :
    Calls Tryz.prog 20 #[.pointer (some ⟨p, 0, none⟩), .int .i64 i] w fun e w' =>
      e = .returned (.int .i64 (S.unpin i).1) ∧ PIn w0 w' p d (ext F w w') (S.unpin i).2 ∧ Upd F w w' :=
  (unpin_at h.pat i hwf hpin).mono fun _ _ ⟨he, hs⟩ => ⟨he, h.stp hs, hs.upd⟩
theorem pin_in (h : PIn w0 w p d F S) (i : Int) (hwf : (Lit.int .i64 i).wf = true) (hc : S.clock < 4611686018427387900) (hr : S.reads < 4611686018427387904) (hpin : ∀ x, get i S.held = some x → x.pins < 4611686018427387904) :
    Calls Tryz.prog 19 #[.pointer (some ⟨p, 0, none⟩), .int .i64 i] w fun e w' =>
      e = .returned (.int .i64 (S.pin i).1) ∧ PIn w0 w' p d (ext F w w') (S.pin i).2 ∧ Upd F w w' :=
  (pin_at h.pat i hwf hc hr hpin).mono fun _ _ ⟨he, hs⟩ => ⟨he, h.stp hs, hs.upd⟩
theorem reads_in (h : PIn w0 w p d F S) :
    Calls Tryz.prog 22 #[.pointer (some ⟨p, 0, none⟩)] w fun e w' => e = .returned (.int .i64 S.reads) ∧ w = w' := by
  obtain ⟨⟨L, rfl, rfl, hA, _, _⟩, _, _⟩ := h
  exact reads_any hA
theorem ownsRow_slice {w : World} {base : Nat} {e : TypeId} {size : Nat} {v : Value} {n : Nat} {xs : List Value} (h : w.ownsRow base e size v n xs) : ∃ a cap, v = .slice a n cap := by
  rcases h.2 with ⟨rfl, rfl⟩ | ⟨g, cap, cur, rfl, _⟩
  · exact ⟨_, _, rfl⟩
  · exact ⟨_, _, rfl⟩
theorem dirty_in (h : PIn w0 w p d F S) :
    Calls Tryz.prog 17 #[.pointer (some ⟨p, 0, none⟩)] w fun e w' => ∃ a cap, e = .returned (.slice a S.changed.length cap) ∧
      w'.ownsRow w.heap.size 3 1 (.slice a S.changed.length cap) S.changed.length ((S.changed.map (·.1)).map encZ) ∧ PIn w0 w' p d F S ∧ Below w.heap.size w w' := by
  have h' := h
  obtain ⟨⟨L, rfl, rfl, hA, _, hok⟩, _, _⟩ := h
  refine (dirty_at hA hok).mono ?_
  rintro e w' ⟨v, rfl, hrow, _, hB⟩
  obtain ⟨a, cap, rfl⟩ := ownsRow_slice hrow
  exact ⟨a, cap, rfl, hrow, h'.made hB, hB⟩
theorem held_in (h : PIn w0 w p d F S) (hc : S.clock < 4611686018427387904) :
    Calls Tryz.prog 21 #[.pointer (some ⟨p, 0, none⟩)] w fun e w' => ∃ (a : Option Addr) (cap : Nat) (ks : List Int), e = .returned (.slice a S.held.length cap) ∧
      ks.Perm (S.held.map (·.1)) ∧ ks.Pairwise (fun a b => usedOf S a < usedOf S b) ∧
      w'.ownsRow w.heap.size 3 1 (.slice a S.held.length cap) S.held.length (ks.map encZ) ∧ PIn w0 w' p d F S ∧ Below w.heap.size w w' := by
  have h' := h
  obtain ⟨⟨L, rfl, rfl, hA, _, hok⟩, _, _⟩ := h
  refine (held_at hA hok hc).mono ?_
  rintro e w' ⟨v, ks, rfl, hp, hpw, hrow, _, hB⟩
  have hl : ks.length = S.held.length := by rw [hp.length_eq]; simp
  rw [hl] at hrow
  obtain ⟨a, cap, rfl⟩ := ownsRow_slice hrow
  exact ⟨a, cap, ks, rfl, hp, hpw, hrow, h'.made hB, hB⟩
end

theorem new_in (n : Nat) (room : Int) (w0 w : World) (hB : Below w0.heap.size w0 w) (hn1 : 64 ≤ n) (hn2 : n ≤ 2048) (hr1 : 1 ≤ room) (hr2 : room ≤ 1024) (d bb : Nat) (hD : DiskAt w d bb (.slice none 0 0) (newDsk n)) (hd : w0.heap.size ≤ d) (hbb : w0.heap.size ≤ bb) :
    Calls Tryz.prog 9 #[.pointer (some ⟨d, 0, none⟩), .int .i64 room] w fun e w' => ∃ p F, e = .returned (.tuple #[.pointer (some ⟨p, 0, none⟩), .int .i64 0]) ∧ PIn w0 w' p d F (newPgr (newDsk n) room) := by
  refine (pagerNew_ok hD room (by omega) (by omega) (by simp [newDsk]; omega) (by simp [newDsk, zerosB_size])).mono ?_
  rintro e w' ⟨p, rfl, hp, hP, hB'⟩
  have hs := hB.size
  refine ⟨p, _, rfl, hP, fun b hb => ?_, hB.trans (hB'.mono hs)⟩
  rcases hb with (h | h | h) | h
  · omega
  · omega
  · simp [Value.ownBlock] at h
  · omega
theorem newDsk_n (n : Nat) : (newDsk n).n = n := by simp [Dsk.n, newDsk]
theorem newDsk_read {n : Nat} {i : Int} (h0 : 0 ≤ i) (h1 : i < n) : (newDsk n).read i = (zerosB 256, 0) := by
  have hm : (newDsk n).may i = 0 := by
    unfold Dsk.may
    rw [newDsk_n, if_neg (by simp [newDsk]), if_neg (by omega)]
  have hi : i.toNat < n := by omega
  unfold Dsk.read
  rw [if_pos hm]
  simp [newDsk, List.getD, List.getElem?_replicate, hi]
end
end Go.Proofs.YtdoankamaobkoaaGreat
