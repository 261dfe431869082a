/- pager.oldest: the page without pins that was used longest ago. -/
import Derived.Test.YtdoankamaobkoaaGreatDoorPager
set_option linter.unusedSimpArgs false
set_option linter.unusedVariables false
namespace Go.Proofs.YtdoankamaobkoaaGreatDoor
open Go.RowKit Go.Maps

/-- among the pages of which 'seen' holds, b is the one without pins that was used longest ago; -1: there is none -/
def Best (l : List (Int × Pg)) (seen : Int → Prop) (b : Int) : Prop :=
  (b = -1 ∧ ∀ q ∈ l, seen q.1 → q.2.pins ≠ 0) ∨ (∃ q ∈ l, b = q.1 ∧ seen q.1 ∧ q.2.pins = 0 ∧ ∀ r ∈ l, seen r.1 → r.2.pins = 0 → q.2.used ≤ r.2.used)

theorem older_spec : ∀ (l : List (Int × Pg)) (b : Option (Int × Pg)), (∀ q, b = some q → q.2.pins = 0) →
    (older b l = none ∧ b = none ∧ ∀ q ∈ l, q.2.pins ≠ 0) ∨ (∃ q, older b l = some q ∧ (b = some q ∨ q ∈ l) ∧ q.2.pins = 0 ∧ (∀ p, b = some p → q.2.used ≤ p.2.used) ∧ ∀ r ∈ l, r.2.pins = 0 → q.2.used ≤ r.2.used)
  | [], none, _ => .inl ⟨rfl, rfl, by simp⟩
  | [], some p, h => .inr ⟨p, rfl, .inl rfl, h p rfl, fun q e => by injection e with e; rw [e]; exact Int.le_refl _, by simp⟩
  | p :: r, b, h => by
    by_cases hp : p.2.pins = 0
    · cases b with
      | none =>
        have e : older none (p :: r) = older (some p) r := by simp [older, hp]
        rw [e]
        rcases older_spec r (some p) (fun q e => by injection e with e; rw [← e]; exact hp) with ⟨_, h2, _⟩ | ⟨q, h1, h2, h3, h4, h5⟩
        · simp at h2
        · refine .inr ⟨q, h1, .inr ?_, h3, by simp, ?_⟩
          · rcases h2 with h2 | h2
            · injection h2 with h2; simp [h2]
            · simp [h2]
          · intro s hs hs0
            rcases List.mem_cons.1 hs with rfl | hs
            · exact h4 _ rfl
            · exact h5 s hs hs0
      | some b0 =>
        by_cases hlt : p.2.used < b0.2.used
        · have e : older (some b0) (p :: r) = older (some p) r := by simp [older, hp, hlt]
          rw [e]
          rcases older_spec r (some p) (fun q e => by injection e with e; rw [← e]; exact hp) with ⟨_, h2, _⟩ | ⟨q, h1, h2, h3, h4, h5⟩
          · simp at h2
          · refine .inr ⟨q, h1, .inr ?_, h3, ?_, ?_⟩
            · rcases h2 with h2 | h2
              · injection h2 with h2; simp [h2]
              · simp [h2]
            · intro s hs; injection hs with hs; have := h4 p rfl; rw [← hs]; omega
            · intro s hs hs0
              rcases List.mem_cons.1 hs with rfl | hs
              · exact h4 _ rfl
              · exact h5 s hs hs0
        · have e : older (some b0) (p :: r) = older (some b0) r := by simp [older, hp, hlt]
          rw [e]
          rcases older_spec r (some b0) h with ⟨_, h2, _⟩ | ⟨q, h1, h2, h3, h4, h5⟩
          · simp at h2
          · refine .inr ⟨q, h1, ?_, h3, h4, ?_⟩
            · rcases h2 with h2 | h2
              · exact .inl h2
              · simp [h2]
            · intro s hs hs0
              rcases List.mem_cons.1 hs with rfl | hs
              · have := h4 b0 rfl; omega
              · exact h5 s hs hs0
    · have e : older b (p :: r) = older b r := by simp [older, hp]
      rw [e]
      rcases older_spec r b h with ⟨h1, h2, h3⟩ | ⟨q, h1, h2, h3, h4, h5⟩
      · refine .inl ⟨h1, h2, fun q hq => ?_⟩
        rcases List.mem_cons.1 hq with rfl | hq
        · exact hp
        · exact h3 q hq
      · refine .inr ⟨q, h1, ?_, h3, h4, ?_⟩
        · rcases h2 with h2 | h2
          · exact .inl h2
          · simp [h2]
        · intro s hs hs0
          rcases List.mem_cons.1 hs with rfl | hs
          · exact absurd hs0 hp
          · exact h5 s hs hs0

/-- the number that 'oldest' hands back -/
def oldN (l : List (Int × Pg)) : Int := match oldest l with | none => -1 | some k => k
theorem best_is {l : List (Int × Pg)} (hu : ∀ q ∈ l, ∀ r ∈ l, q.2.used = r.2.used → q.1 = r.1) {b : Int} (h : Best l (fun _ => True) b) : b = oldN l := by
  unfold oldN oldest
  rcases older_spec l none (by simp) with ⟨h1, _, h3⟩ | ⟨q, h1, h2, h3, _, h5⟩
  · rw [h1]
    rcases h with ⟨rfl, _⟩ | ⟨q, hq, _, _, hq0, _⟩
    · rfl
    · exact absurd hq0 (h3 q hq)
  · rw [h1]
    rcases h2 with h2 | h2
    · simp at h2
    · rcases h with ⟨rfl, hn⟩ | ⟨r, hr, rfl, _, hr0, hr1⟩
      · exact absurd h3 (hn q h2 trivial)
      · have := h5 r hr hr0
        have := hr1 q h2 trivial h3
        exact (hu q h2 r hr (by omega)).symm

theorem best_skip {l : List (Int × Pg)} {seen seen' : Int → Prop} {b : Int} {x : Int} {y : Pg} (h : Best l seen b) (hx : ∀ q ∈ l, q.1 = x → q.2 = y) (hp : y.pins ≠ 0)
    (hs : ∀ k, seen' k ↔ seen k ∨ k = x) : Best l seen' b := by
  rcases h with ⟨rfl, hn⟩ | ⟨q, hq, rfl, h1, h2, h3⟩
  · refine .inl ⟨rfl, fun q hq hsq => ?_⟩
    rcases (hs _).1 hsq with h | h
    · exact hn q hq h
    · rw [hx q hq h]; exact hp
  · refine .inr ⟨q, hq, rfl, (hs _).2 (.inl h1), h2, fun r hr hsr hr0 => ?_⟩
    rcases (hs _).1 hsr with h | h
    · exact h3 r hr h hr0
    · rw [hx r hr h] at hr0; exact absurd hr0 hp
theorem best_new {l : List (Int × Pg)} {seen seen' : Int → Prop} {x : Int} {y : Pg} (h : Best l seen (-1)) (h0 : ∀ q ∈ l, 0 ≤ q.1) (hm : (x, y) ∈ l) (hx : ∀ q ∈ l, q.1 = x → q.2 = y) (hp : y.pins = 0)
    (hs : ∀ k, seen' k ↔ seen k ∨ k = x) : Best l seen' x := by
  refine .inr ⟨(x, y), hm, rfl, (hs _).2 (.inr rfl), hp, fun r hr hsr hr0 => ?_⟩
  rcases (hs _).1 hsr with h' | h'
  · rcases h with ⟨_, hn⟩ | ⟨q, hq, e, _⟩
    · exact absurd hr0 (hn r hr h')
    · have := h0 q hq; omega
  · rw [hx r hr h']; exact Int.le_refl _
theorem best_less {l : List (Int × Pg)} {seen seen' : Int → Prop} {b x : Int} {z y : Pg} (h : Best l seen b) (hb : 0 ≤ b) (hzb : ∀ q ∈ l, q.1 = b → q.2 = z) (hm : (x, y) ∈ l) (hx : ∀ q ∈ l, q.1 = x → q.2 = y) (hp : y.pins = 0)
    (hlt : y.used < z.used) (hs : ∀ k, seen' k ↔ seen k ∨ k = x) : Best l seen' x := by
  refine .inr ⟨(x, y), hm, rfl, (hs _).2 (.inr rfl), hp, fun r hr hsr hr0 => ?_⟩
  rcases h with ⟨rfl, _⟩ | ⟨q, hq, rfl, _, _, h3⟩
  · omega
  · rcases (hs _).1 hsr with h' | h'
    · have e3 := h3 r hr h' hr0
      have e4 := hzb q hq rfl
      rw [e4] at e3
      simp; omega
    · rw [hx r hr h']; exact Int.le_refl _
theorem best_more {l : List (Int × Pg)} {seen seen' : Int → Prop} {b x : Int} {z y : Pg} (h : Best l seen b) (hb : 0 ≤ b) (hzb : ∀ q ∈ l, q.1 = b → q.2 = z) (hx : ∀ q ∈ l, q.1 = x → q.2 = y)
    (hle : z.used ≤ y.used) (hs : ∀ k, seen' k ↔ seen k ∨ k = x) : Best l seen' b := by
  rcases h with ⟨rfl, _⟩ | ⟨q, hq, rfl, h1, h2, h3⟩
  · omega
  · refine .inr ⟨q, hq, rfl, (hs _).2 (.inl h1), h2, fun r hr hsr hr0 => ?_⟩
    rcases (hs _).1 hsr with h' | h'
    · exact h3 r hr h' hr0
    · rw [hx r hr h', hzb q hq rfl]; exact hle

def Seen (left : Lit → Bool) (k : Int) : Prop := left (.int .i64 k) = false

theorem seen_step (left : Lit → Bool) (x k : Int) : Seen (fun z => left z && !z.sameKey (.int .i64 x)) k ↔ Seen left k ∨ k = x := by
  unfold Seen
  by_cases h : k = x
  · simp [h, Lit.sameKey]
  · simp [h, Lit.sameKey]

theorem isPage_bd {n i : Int} (h : isPage n i = true) : 0 ≤ i ∧ i ≤ 8192 := by
  have := jFirst_bd n
  have := jPages_bd n
  simp [isPage] at h
  omega
theorem wf_small {i : Int} (h : -4611686018427387904 ≤ i ∧ i ≤ 4611686018427387904) : (Lit.int .i64 i).wf = true := by
  have h1 : IntKind.i64.min = -9223372036854775808 := rfl
  have h2 : IntKind.i64.max = 9223372036854775807 := rfl
  show (decide (IntKind.i64.min ≤ i) && decide (i ≤ IntKind.i64.max)) = true
  rw [h1, h2]
  simp; omega

theorem ranges_drewN {w : World} {b r n : Nat} {D : DataW Value} {left : Lit → Bool} {cnt : Nat} (h : w.ranges Tryz.prog 3 RV b r n D left cnt) (m : Nat) :
    (w.drewN m).ranges Tryz.prog 3 RV b r n D left cnt := h
theorem below_drewN {B : Nat} {a w : World} (h : Below B a w) (n : Nat) : Below B a (w.drewN n) := ⟨h.os, h.tape, h.output, h.size, h.block⟩

set_option maxRecDepth 100000 in
set_option maxHeartbeats 1000000 in
theorem oldest_at {w : World} {L : PLoc} {S : Pgr} (h : PagerAt w L S) (hok : S.Ok) :
    Calls Tryz.prog 99 #[.pointer (some ⟨L.p, 0, none⟩)] w fun e w' => e = .returned (.int .i64 (oldN S.held)) ∧ Below w.heap.size w w' := by
  have c2 := cell_of h.p 2
  simp at c2
  have hpl := lt_of h.p
  have hown := h.held.own
  have hpg : ∀ q ∈ S.held, ∀ W, Below w.heap.size w W → W.cell? ⟨L.blk q.1, 1, none⟩ = some (.int .i64 q.2.pins) ∧ W.cell? ⟨L.blk q.1, 2, none⟩ = some (.int .i64 q.2.used) := fun q hq W hB => by
    have hb := h.page q hq
    have hl := lt_of hb
    exact ⟨(hB.cell (p := ⟨L.blk q.1, 1, none⟩) hl).trans (by rw [cell_of hb 1]; rfl), (hB.cell (p := ⟨L.blk q.1, 2, none⟩) hl).trans (by rw [cell_of hb 2]; rfl)⟩
  have HPG := Lib.hid hpg
  have HS := Lib.hid h.held.srt
  have HW := Lib.hid h.held.wf
  have HOK := Lib.hid hok
  clear hpg h hok
  go_enter Tryz.func99, Tryz.ntmps99
  go_wp2_with (first
    | (at_range; refine wpList_range_own _ rfl _ 107 rfl 3 114 key_law Tryz.underlying107 _ L.h (heldV L.blk S.held).length _ rfl hown ?_; intro w0 hrg0 hg0 hs0)
    | fail)
  go_frame
  go_loopw [3, 4, 5] (fun b _ _ wr => ∃ (left : Lit → Bool) (cnt : Nat) (k : Int), b = .int .i64 k ∧ wr.ranges Tryz.prog 3 RV L.h w.heap.size (heldV L.blk S.held).length (.map (encL (heldV L.blk S.held))) left cnt ∧ Below w.heap.size w wr ∧ Hid (Best S.held (Seen left) k))
    (fun _ _ _ wr => wr.rangeLeft L.h w.heap.size)
  case atStart =>
    refine ⟨_, _, -1, rfl, hrg0, (Below.refl _ w).grown hg0 (Nat.le_refl _) (fun k e => by cases e), .inl ⟨rfl, fun q hq hs => ?_⟩⟩
    exfalso
    unfold Seen at hs
    rw [enc_has] at hs
    have := mem_get HS.out (show (q.1, Value.pointer (some ⟨L.blk q.1, 0, none⟩)) ∈ heldV L.blk S.held from List.mem_map.2 ⟨q, hq, rfl⟩)
    rw [this] at hs
    simp at hs
  case round =>
    obtain ⟨left, cnt, k, rfl, hrg, hB, HB⟩ := hrel
    go_wp2_with (first
      | (at_next; refine wpList_next_ranges _ rfl _ rfl 3 key_law RV (Value.int .i64) id (fun key kl hk => by obtain ⟨x, hx, _⟩ := Maps.keyOf_int_inv Tryz.underlying3 hk; exact ⟨x, hx⟩) (fun v _ _ => ⟨v, rfl⟩) L.h w.heap.size _ _ _ _ rfl hrg ?_ ?_)
      | fail)
    · intro hc0 hl0
      have HE : Hid (k = oldN S.held) := by
        refine best_is HOK.out.used ?_
        rcases HB.out with ⟨h1, h2⟩ | ⟨q, h1, h2, h3, h4, h5⟩
        · exact .inl ⟨h1, fun q hq _ => h2 q hq (hl0 _)⟩
        · exact .inr ⟨q, h1, h2, trivial, h4, fun r hr _ => h5 r hr (hl0 _)⟩
      clear HB hrg
      go_wp2
      go_ret
      exact ⟨by rw [HE.out]; rfl, hB⟩
    · intro x c kl yd yp w1 cnt1 hkey hlk hv hat hrg1 hlt hg1 hs1 hen
      obtain ⟨x', ex, rfl, hwx⟩ := Maps.keyOf_int_inv Tryz.underlying3 hkey
      injection ex with _ ex
      subst ex
      -- which page it is
      have hm : ∃ y, (x, y) ∈ S.held ∧ c = .pointer (some ⟨L.blk x, 0, none⟩) := by
        have h1 := hat (.lit (.bool true))
        have h2 := hat (.lit (.bool false))
        rw [enc_at, heldV_eq, mapV_get] at h1 h2
        cases hg : get x S.held with
        | none => rw [hg] at h1 h2; simp at h1 h2; rw [← h1] at h2; simp at h2
        | some y =>
          rw [hg] at h1
          simp only [Option.map_some] at h1
          simp only [RV, id_eq, Option.some.injEq, Prod.mk.injEq] at hv
          rw [← hv.1] at h1
          injection h1 with h1
          exact ⟨y, get_mem hg, h1.symm⟩
      obtain ⟨y, hmy, rfl⟩ := hm
      have hB1 : Below w.heap.size w w1 := hB.grown hg1 hB.size (fun k e => by cases e; exact Nat.le_refl _)
      obtain ⟨y1, y2⟩ := HPG.out _ hmy w1 hB1
      simp only at y1 y2
      have z2 : w1.cell? ⟨L.p, 2, none⟩ = some (.map (some L.h)) := (hB1.cell (p := ⟨L.p, 2, none⟩) hpl).trans c2
      have HU : Hid (∀ q ∈ S.held, q.1 = x → q.2 = y) := fun q hq e => by
        have e1 := mem_get HOK.out.srt (show (q.1, q.2) ∈ S.held from hq)
        rw [e, mem_get HOK.out.srt hmy] at e1
        injection e1 with e1
        exact e1.symm
      have HL := Lib.hid hlt
      have HR := Lib.hid hrg1
      have HG := Lib.hid hrg
      have HM := Lib.hid hmy
      clear hlt hat hlk hv hkey hg1 hs1 hrg hmy
      by_cases hp0 : y.pins = 0
      · by_cases hk0 : k < 0
        · obtain rfl : k = -1 := by
            rcases HB.out with ⟨h1, _⟩ | ⟨q, hq, rfl, _⟩
            · exact h1
            · have := isPage_bd (HOK.out.held q hq).1; omega
          have HN := Lib.hid (best_new (seen' := Seen (fun z => left z && !z.sameKey (.int .i64 x))) HB.out (fun q hq => (isPage_bd (HOK.out.held q hq).1).1) HM.out HU.out hp0 (seen_step left x))
          rw [hp0] at y1
          clear hp0 hk0 HB
          go_wp2
          go_quiet (fail)
          go_wp2
          go_roundw
          case rel => exact ⟨_, cnt1, x, rfl, ranges_drewN HR.out nq, below_drewN hB1 nq, HN⟩
          case measure => rw [(ranges_drewN HR.out nq).left_eq, HG.out.left_eq]; exact HL.out
        · obtain ⟨q, hq, rfl, _⟩ : ∃ q ∈ S.held, k = q.1 ∧ True := by
            rcases HB.out with ⟨h1, _⟩ | ⟨q, hq, e, _⟩
            · omega
            · exact ⟨q, hq, e, trivial⟩
          obtain ⟨k, z⟩ := q
          simp only at hk0 HB ⊢
          obtain ⟨z1, z3⟩ := HPG.out _ hq w1 hB1
          simp only at z1 z3
          have hk : 0 ≤ k := by omega
          have hzb : ∀ q ∈ S.held, q.1 = k → q.2 = z := fun q hq' e => by
            have e1 := mem_get HOK.out.srt (show (q.1, q.2) ∈ S.held from hq')
            rw [e, mem_get HOK.out.srt hq] at e1
            injection e1 with e1
            exact e1.symm
          have hlook : ∀ n, (Instr.lookup 107 (.map (some L.h)) (.int .i64 k) false).run Tryz.prog (w1.drewN n) = .ok (.pointer (some ⟨L.blk k, 0, none⟩)) (w1.drewN n) := fun n => by
            have hMV : MapV (w1.drewN n) L.h (heldV L.blk S.held) := ⟨(ranges_drewN HR.out n).owns, HS.out, HW.out⟩
            have := hMV.look (k := k) Tryz.underlying107 (zero_page _) (wf_small (by have := isPage_bd (HOK.out.held _ hq).1; simp at this; omega))
            rw [heldV_eq, mapV_get, mem_get HOK.out.srt hq] at this
            exact this
          by_cases hlt : y.used < z.used
          · have HN := Lib.hid (best_less (seen' := Seen (fun z => left z && !z.sameKey (.int .i64 x))) HB.out hk hzb HM.out HU.out hp0 hlt (seen_step left x))
            rw [hp0] at y1
            clear hp0 hk0 HB hzb hq
            generalize y.used = yu at *
            generalize z.used = zu at *
            go_wp2
            go_quiet (fail)
            go_wp2
            go_roundw
            case rel => exact ⟨_, cnt1, x, rfl, ranges_drewN HR.out nq, below_drewN hB1 nq, HN⟩
            case measure => rw [(ranges_drewN HR.out nq).left_eq, HG.out.left_eq]; exact HL.out
          · have hle : z.used ≤ y.used := by omega
            have HN := Lib.hid (best_more (seen' := Seen (fun z => left z && !z.sameKey (.int .i64 x))) HB.out hk hzb HU.out hle (seen_step left x))
            rw [hp0] at y1
            clear hp0 hk0 HB hzb hq hlt
            generalize y.used = yu at *
            generalize z.used = zu at *
            go_wp2
            go_quiet (fail)
            go_wp2
            go_roundw
            case rel => exact ⟨_, cnt1, k, rfl, ranges_drewN HR.out nq, below_drewN hB1 nq, HN⟩
            case measure => rw [(ranges_drewN HR.out nq).left_eq, HG.out.left_eq]; exact HL.out
      · have HN := Lib.hid (best_skip (seen' := Seen (fun z => left z && !z.sameKey (.int .i64 x))) HB.out HU.out hp0 (seen_step left x))
        have hp0' : (y.pins == 0) = false := by simpa using hp0
        clear hp0 HB
        generalize y.pins = pn at *
        go_wp2
        go_quiet (fail)
        go_wp2
        go_roundw
        case rel => exact ⟨_, cnt1, k, rfl, ranges_drewN HR.out nq, below_drewN hB1 nq, HN⟩
        case measure => rw [(ranges_drewN HR.out nq).left_eq, HG.out.left_eq]; exact HL.out
end Go.Proofs.YtdoankamaobkoaaGreatDoor
