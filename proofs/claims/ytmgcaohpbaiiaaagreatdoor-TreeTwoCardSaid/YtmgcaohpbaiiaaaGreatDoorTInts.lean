/- Rows of numbers; which pages a space says are taken. -/
import Derived.Test.YtmgcaohpbaiiaaaGreatDoorU14
import Derived.Test.YtmgcaohpbaiiaaaGreatDoorU10
import Derived.BigQuiet
set_option linter.unusedSimpArgs false
set_option linter.unusedVariables false
namespace Go.Proofs.YtmgcaohpbaiiaaaGreatDoor
open Go.RowKit Go.Maps Go.Shelf

/-- a row of numbers -/
def ZRow (w : World) (a : Option Addr) (l : List Int) : Prop := ∀ i (h : i < l.length), ∃ g off, a = some ⟨g, off, none⟩ ∧ g < w.heap.size ∧ w.cell? ⟨g, off + i, none⟩ = some (.int .i64 (l[i]'h))
theorem ZRow.made {w w' : World} {a : Option Addr} {l : List Int} (h : ZRow w a l) (hB : Below w.heap.size w w') : ZRow w' a l := fun i hi => by
  obtain ⟨g, off, ha, hg, hc⟩ := h i hi
  exact ⟨g, off, ha, by have := hB.size; omega, (hB.cell (p := ⟨g, off + i, none⟩) hg).trans hc⟩
theorem zrow_of {w : World} {base : Nat} {a : Option Addr} {cap : Nat} {l : List Int} (h : w.ownsRow base 3 1 (.slice a l.length cap) l.length (l.map encZ)) : ZRow w a l := fun i hi => by
  rcases h.2 with ⟨hv, h0⟩ | ⟨g, cap', cur, hv, -⟩
  · omega
  simp at hv
  obtain ⟨rfl, rfl⟩ := hv
  have hl := h.lt g rfl
  refine ⟨g, 0, rfl, hl.2, ?_⟩
  rw [Nat.zero_add, h.cellAt i (by omega), List.getElem?_map, List.getElem?_eq_getElem hi]; rfl
set_option maxHeartbeats 2000000 in
set_option maxRecDepth 100000 in
theorem tsame_ints (w : World) (a1 a2 : Option Addr) (c1 c2 : Nat) (l1 l2 : List Int) (h1 : ZRow w a1 l1) (h2 : ZRow w a2 l2) (hn1 : l1.length ≤ 100000) (hn2 : l2.length ≤ 100000) :
    Calls Tryz.prog 22 #[.slice a1 l1.length c1, .slice a2 l2.length c2] w fun e w' => e = .returned (.bool (decide (l1 = l2))) ∧ Below w.heap.size w w' := by
  by_cases hlen : l1.length = l2.length
  case neg =>
    have hd : decide (l1 = l2) = false := by simp; exact fun e => hlen (by rw [e])
    rw [hd]
    have z1 : ¬ ((l1.length : Int) = (l2.length : Int)) := by omega
    clear hd h1 h2 hlen
    generalize l1.length = m1 at *
    generalize l2.length = m2 at *
    go_enter Tryz.func22, Tryz.ntmps22
    go_wp2
    go_ret
    exact ⟨rfl, Below.refl _ _⟩
  have HC : Hid (∀ k (hk : k < l1.length) (hk2 : k < l2.length) (q : Nat), ∃ g off g2 off2, a1 = some ⟨g, off, none⟩ ∧ a2 = some ⟨g2, off2, none⟩ ∧ (∀ q, (w.drewN q).cell? ⟨g, off + k, none⟩ = some (.int .i64 (l1[k]'hk))) ∧ (∀ q, (w.drewN q).cell? ⟨g2, off2 + k, none⟩ = some (.int .i64 (l2[k]'hk2)))) := fun k hk hk2 q => by
    obtain ⟨g, off, e, -, c0⟩ := h1 k hk
    obtain ⟨g2, off2, e2, -, c2⟩ := h2 k hk2
    exact ⟨g, off, g2, off2, e, e2, fun _ => c0, fun _ => c2⟩
  have HS : Hid (∀ k (hk : k < l1.length) (hk2 : k < l2.length), ((l1[k]'hk) = (l2[k]'hk2) → l1.take k = l2.take k → l1.take (k + 1) = l2.take (k + 1)) ∧ (¬ (l1[k]'hk) = (l2[k]'hk2) → decide (l1 = l2) = false)) := fun k hk hk2 => by
    refine ⟨fun e e2 => ?_, fun h => ?_⟩
    · rw [List.take_succ_eq_append_getElem hk, List.take_succ_eq_append_getElem hk2, e, e2]
    · simp only [decide_eq_false_iff_not]
      intro e
      subst e
      exact h rfl
  have HE : Hid (l1.take l1.length = l2.take l1.length → decide (l1 = l2) = true) := fun e => by
    rw [List.take_length, hlen, List.take_length] at e
    simp [e]
  have HT0 : Hid (l1.take 0 = l2.take 0) := rfl
  clear h1 h2
  obtain ⟨m, HM⟩ : ∃ m, Hid (l1.length = m) := ⟨_, Lib.hid rfl⟩
  obtain ⟨m2, HM2⟩ : ∃ m, Hid (l2.length = m) := ⟨_, Lib.hid rfl⟩
  rw [HM.out, HM2.out] at hlen
  subst hlen
  rw [HM2.out]
  rw [HM.out] at hn1 HE ⊢
  generalize decide (l1 = l2) = r at *
  go_enter Tryz.func22, Tryz.ntmps22
  go_wp2
  go_loopw [13] (fun v wr => ∃ (k q : Nat), v = .int .i64 k ∧ k ≤ m ∧ Hid (l1.take k = l2.take k) ∧ wr = w.drewN q) (fun v _ => m - (intOf v).toNat)
  case atStart => exact ⟨0, 0, rfl, Nat.zero_le _, HT0, rfl⟩
  case round =>
    obtain ⟨k, q, rfl, hk, hh, rfl⟩ := hrel
    by_cases hlt : k < m
    · have hlt1 : k < l1.length := by rw [HM.out]; exact hlt
      have hlt2 : k < l2.length := by rw [HM2.out]; exact hlt
      obtain ⟨g, off, g2, off2, rfl, rfl, x0, x1⟩ := HC.out k hlt1 hlt2 q
      obtain ⟨s1, s2⟩ := HS.out k hlt1 hlt2
      clear HC HS HE HT0
      by_cases hb : l1[k] = l2[k]
      · have S3 := Lib.hid (s1 hb hh.out)
        clear s1 s2 hh
        rw [hb] at x0
        generalize l2[k] = x at *
        go_upto_region 6 with fail
        go_quiet (fail)
        go_wp2
        go_roundw
        case rel => exact ⟨k + 1, _, by go_num, by omega, S3, rfl⟩
        case measure => simp [intOf]; omega
      · have S3 := s2 hb
        subst S3
        clear s1 s2 hh
        generalize l1[k] = x at *
        generalize l2[k] = y at *
        go_upto_region 6 with fail
        go_quiet (fail)
        go_wp2
        go_ret
        exact ⟨rfl, (drewN_below w q).trans ((drewN_below (w.drewN q) _).mono (drewN_below w q).size)⟩
    · obtain rfl : m = k := by omega
      have h1 := HE.out hh.out
      subst h1
      go_wp2
      go_ret
      exact ⟨rfl, drewN_below w q⟩
/-! ### the pages that are taken -/
def takenS (f m : Nat) (S : TS) : List Nat := ((List.range m).filter S.used).map fun j => f + 1 + j
section
variable {f m root B : Nat} {S S0 S1 S2 : TS} {l : List Ent} {P : List Nat}
theorem mem_takenS {k : Nat} : k ∈ takenS f m S ↔ okM f m S k = true := by
  unfold takenS
  simp only [List.mem_map, List.mem_filter, List.mem_range, okM, Bool.and_eq_true, decide_eq_true_eq]
  constructor
  · rintro ⟨j, ⟨h1, h2⟩, rfl⟩
    exact ⟨by omega, by omega, by rw [show f + 1 + j - f - 1 = j by omega]; exact h2⟩
  · rintro ⟨h1, h2, h3⟩
    exact ⟨k - f - 1, ⟨by omega, h3⟩, by omega⟩
theorem takenS_len : (takenS f m S).length = cntM m S := by
  unfold takenS cntM
  rw [List.length_map, List.countP_eq_length_filter]
theorem takenS_lt : (takenS f m S).Pairwise (· < ·) := by
  unfold takenS
  rw [List.pairwise_map]
  exact (List.Pairwise.filter _ List.pairwise_lt_range).imp fun {a b} h => by omega
theorem taken_one (hr : okM f m S root = true) (hc : cntM m S = 1) : takenS f m S = [root] := by
  have h1 := mem_takenS.2 hr
  obtain ⟨x, hx⟩ := List.length_eq_one_iff.1 (takenS_len.trans hc)
  rw [hx] at h1 ⊢
  rw [List.mem_singleton.1 h1]
theorem takenTo_eq {n : Int} {V : Int → ByteArray} (h : MapIs n V S.used) (h1 : 64 ≤ n) (h2 : n ≤ 2048) : takenTo n (V (jFirst n)) (spMany n) = (takenS (jFirst n).toNat (spMany n) S).map fun (k : Nat) => (k : Int) := by
  obtain ⟨e, -, -⟩ := first_nat h1 h2
  unfold takenTo takenS
  rw [List.map_map]
  have e1 : (List.range (spMany n)).filter (fun j => bitB (V (jFirst n)) (j + 1)) = (List.range (spMany n)).filter S.used := List.filter_congr fun j hj => h.bits j (List.mem_range.1 hj)
  rw [e1]
  refine List.map_congr_left fun j _ => ?_
  simp only [Function.comp]
  push_cast
  omega
theorem flL_ne : ∀ {d : Nat} {L : List (Bd d)}, GoodL d L → L ≠ [] → flL d L ≠ []
  | 0, L, _, h => by rw [flL_zero]; exact h
  | d + 1, L, hg, h => by
    cases L with
    | nil => exact absurd rfl h
    | cons c r =>
      have gc := GoodB_succ.1 (hg.all c (by simp))
      rw [flL_cons, flB_succ]
      have := flL_ne gc.2.2.2 gc.1
      intro e
      exact this (List.append_eq_nil_iff.1 e).1
theorem TreeL.empty (h : TreeL f m S root [] P B) : P = [root] := by
  obtain ⟨d, L, h1, h2, rfl, -⟩ := h
  cases d with
  | zero => rw [pgL_zero]
  | succ d => exact absurd h2 (flL_ne h1.lay.good (h1.ne (by omega)))
end
section
variable {w0 w W : World} {s dk t root B B0 c : Nat} {F : Nat → Prop} {n N : Int} {V D : Int → ByteArray} {S S1 : TS} {l : List Ent} {P : List Nat} {ao : Option Addr}
theorem taken_any (h : TIn w0 w s dk F n V D N t root S) (hN : N < 900000000) : Calls Tryz.prog 24 #[.pointer (some ⟨s, 0, none⟩)] w fun e w' => ∃ F' a cap, e = .returned (.slice a ((takenS (jFirst n).toNat (spMany n) S).map fun (k : Nat) => (k : Int)).length cap) ∧ TRun w0 w w' s dk F F' n V D (N + 2) t root S ∧ ZRow w' a ((takenS (jFirst n).toNat (spMany n) S).map fun (k : Nat) => (k : Int)) := by
  have := takenl_sp h.sin (by omega)
  rw [takenTo_eq h.shows.map h.bd.1 h.bd.2] at this
  refine this.mono ?_
  rintro e w' ⟨a, cap, w1, he, hS, hB, ho⟩
  exact ⟨_, a, cap, he, (h.run.step (TSt.of hS h.lt) h.shows).made hB, zrow_of ho⟩
end
end Go.Proofs.YtmgcaohpbaiiaaaGreatDoor
