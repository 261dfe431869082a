/- The reference's rows: Held, Dirty; the same of two rows; a new disk. -/
import Derived.Test.YtdoankamaobkoaaGreatQComm
import Derived.Test.YtdoankamaobkoaaGreatImage
set_option linter.unusedSimpArgs false
set_option linter.unusedVariables false
namespace Go.Proofs.YtdoankamaobkoaaGreat
open Go.RowKit Go.Maps Go.Shelf

theorem info_int : (Tryz.prog.info? 3).map (fun i => (i.zero, i.size, i.bytes)) = some (some (.int .i64 0), 1, 8) := by kernel_rfl
theorem push_int {w W : World} {base n : Nat} {v : Value} {xs : List Int} (h : w.ownsRow base 3 1 v n (xs.map encZ)) (hB : Below w.heap.size w W) (hb : base ≤ w.heap.size) (hn : n ≤ 100000000) (x : Int) :
    ∃ ao co w3, (Builtin.append_ #[41, 41] 41 #[v, .slice (some ⟨W.heap.size, 0, none⟩) 1 1]).run Tryz.prog (W.alloc (.cells #[.int .i64 x] 3)) = .ok (.slice ao (n + 1) co) w3 ∧
      w3.ownsRow base 3 1 (.slice ao (n + 1) co) (n + 1) ((xs ++ [x]).map encZ) ∧ Below base w w3 := by
  have hB1 : Below w.heap.size w (W.alloc (.cells #[.int .i64 x] 3)) := hB.alloc hB.size _
  have hs := hB1.size
  obtain ⟨ao, co, w3, hr, ho, hg, hbl⟩ := many_append 3 41 _ 1 8 info_int Tryz.underlying41 rfl (by omega) (by omega) _ base v n (xs.map encZ) (ownsRow_made h hB1) ⟨W.heap.size, 0, none⟩ 1 1 [.int .i64 x] rfl
    (fun k u hu => by
      rw [add_none, Nat.zero_add, cell_new]
      simpa using hu) (by simp [Value.oneCell']) (by omega) (by omega)
  refine ⟨ao, co, w3, hr, by rw [List.map_append]; exact ho, ?_⟩
  exact (hB1.mono hb).grown hg (Nat.le_trans hb hs) (fun k hk => ((ownsRow_made h hB1).lt k hk).1)
section
variable {w : World} {r q : Nat} {S : Pgr} {L : List (Int × Pg)} {G : Nat → Prop}
set_option maxRecDepth 100000 in
set_option maxHeartbeats 1000000 in
theorem qheld_any (h : RAt w r q G S L) (hl : L.length ≤ 4096) :
    Calls Tryz.prog 27 #[.pointer (some ⟨r, 0, none⟩)] w fun e w' => ∃ ao co, e = .returned (.slice ao L.length co) ∧ w'.ownsRow w.heap.size 3 1 (.slice ao L.length co) L.length ((L.map (·.1)).map encZ) ∧ Below w.heap.size w w' := by
  have HC : Hid (∀ W, Below w.heap.size w W → ∃ a c, W.cell? ⟨r, 2, none⟩ = some (.slice a L.length c) ∧ ∀ k (hk : k < L.length), ∃ g, a = some ⟨g, 0, none⟩ ∧ W.cell? ⟨g, k * 3, none⟩ = some (.int .i64 (L[k]'hk).1)) := fun W hB => by
    obtain ⟨lv, cv, bv, lgv, hM, _⟩ := h.made hB
    obtain ⟨a, c, rfl⟩ := ownsRow_slice hM.list
    refine ⟨a, c, hM.sees.c2, fun k hk => ?_⟩
    obtain ⟨g, cap, he, h1, _⟩ := hM.listAt hk
    simp at he
    exact ⟨g, he.1, h1⟩
  obtain ⟨a0, c0, d0, -⟩ := HC.out w (Below.refl _ _)
  clear h
  generalize L = l at *
  have HT : Hid (∀ k (hk : k < l.length), ((l.map (·.1)).take (k + 1)) = (l.map (·.1)).take k ++ [(l[k]'hk).1]) := fun k hk => by
    rw [List.take_succ_eq_append_getElem (by simpa using hk), List.getElem_map]
  have HTA : Hid ((l.map (·.1)).take l.length = l.map (·.1)) := by show _ = _; rw [List.take_of_length_le (by simp)]
  obtain ⟨N, HN⟩ : ∃ N, Hid (l.length = N) := ⟨_, Lib.hid rfl⟩
  have HC2 : Hid (∀ W, Below w.heap.size w W → ∃ a c, W.cell? ⟨r, 2, none⟩ = some (.slice a N c) ∧ ∀ k (hk : k < l.length), ∃ g, a = some ⟨g, 0, none⟩ ∧ W.cell? ⟨g, k * 3, none⟩ = some (.int .i64 (l[k]'hk).1)) := fun W hB => by rw [← HN.out]; exact HC.out W hB
  clear HC
  rw [HN.out] at HTA d0 hl ⊢
  go_enter Tryz.func27, Tryz.ntmps27
  go_wp2
  go_loopw [3, 10] (fun vo vi wr => ∃ (k : Nat) (ao : Option Addr) (co : Nat), vo = .slice ao k co ∧ vi = .int .i64 k ∧ k ≤ N ∧ Hid (wr.ownsRow w.heap.size 3 1 (.slice ao k co) k (((l.map (·.1)).take k).map encZ)) ∧ Below w.heap.size w wr) (fun _ vi _ => N - (intOf vi).toNat)
  case atStart => exact ⟨0, none, 0, rfl, rfl, by omega, World.ownsRow_nil _ _ _ _, Below.refl _ _⟩
  case round =>
    obtain ⟨k, ao, co, rfl, rfl, hk, HO, hB⟩ := hrel
    by_cases hlt : k < N
    · have hlt' : k < l.length := by rw [HN.out]; exact hlt
      obtain ⟨a, c, d1, hcells⟩ := HC2.out wr hB
      obtain ⟨g, rfl, t0⟩ := hcells k hlt'
      obtain ⟨ao2, co2, w3, q1, q2, q3⟩ := push_int HO.out (Below.refl wr.heap.size wr) hB.size (by omega) (l[k]'hlt').1
      rw [← HT.out k hlt'] at q2
      have Q1 := Lib.hid q1
      have Q2 := Lib.hid q2
      have Q3 := Lib.hid (hB.trans q3)
      clear q1 q2 q3 HC2 HT HTA hcells HO
      generalize (l[k]'hlt').1 = x at *
      go_wp2_with (at_builtin; refine wpList_append_run Q1.out rfl rfl rfl rfl rfl ?_)
      go_roundw
      case rel => exact ⟨k + 1, ao2, co2, rfl, by go_num, by omega, Q2, Q3.out⟩
      case measure => simp [intOf]; omega
    · obtain rfl : k = N := by omega
      rw [HTA.out] at HO
      clear HC2 HT
      go_wp2
      go_ret
      exact ⟨ao, co, rfl, HO.out, hB⟩
set_option maxRecDepth 100000 in
set_option maxHeartbeats 1000000 in
theorem qdirty_any (h : RAt w r q G S L) (hl : S.changed.length ≤ 4096) :
    Calls Tryz.prog 26 #[.pointer (some ⟨r, 0, none⟩)] w fun e w' => ∃ ao co, e = .returned (.slice ao S.changed.length co) ∧ w'.ownsRow w.heap.size 3 1 (.slice ao S.changed.length co) S.changed.length ((S.changed.map (·.1)).map encZ) ∧ Below w.heap.size w w' := by
  have HC : Hid (∀ W, Below w.heap.size w W → ∃ a c, W.cell? ⟨r, 3, none⟩ = some (.slice a S.changed.length c) ∧ ∀ k (hk : k < S.changed.length), ∃ g, a = some ⟨g, 0, none⟩ ∧ W.cell? ⟨g, k * 2, none⟩ = some (.int .i64 (S.changed[k]'hk).1)) := fun W hB => by
    obtain ⟨lv, cv, bv, lgv, hM, _⟩ := h.made hB
    obtain ⟨a, c, rfl⟩ := ownsRow_slice hM.chg
    refine ⟨a, c, hM.sees.c3, fun k hk => ?_⟩
    obtain ⟨g, cap, he, h1, _⟩ := hM.chgAt hk
    simp at he
    exact ⟨g, he.1, h1⟩
  obtain ⟨a0, c0, d0, -⟩ := HC.out w (Below.refl _ _)
  clear h
  generalize S.changed = l at *
  have HT : Hid (∀ k (hk : k < l.length), ((l.map (·.1)).take (k + 1)) = (l.map (·.1)).take k ++ [(l[k]'hk).1]) := fun k hk => by
    rw [List.take_succ_eq_append_getElem (by simpa using hk), List.getElem_map]
  have HTA : Hid ((l.map (·.1)).take l.length = l.map (·.1)) := by show _ = _; rw [List.take_of_length_le (by simp)]
  obtain ⟨N, HN⟩ : ∃ N, Hid (l.length = N) := ⟨_, Lib.hid rfl⟩
  have HC2 : Hid (∀ W, Below w.heap.size w W → ∃ a c, W.cell? ⟨r, 3, none⟩ = some (.slice a N c) ∧ ∀ k (hk : k < l.length), ∃ g, a = some ⟨g, 0, none⟩ ∧ W.cell? ⟨g, k * 2, none⟩ = some (.int .i64 (l[k]'hk).1)) := fun W hB => by rw [← HN.out]; exact HC.out W hB
  clear HC
  rw [HN.out] at HTA d0 hl ⊢
  go_enter Tryz.func26, Tryz.ntmps26
  go_wp2
  go_loopw [3, 10] (fun vo vi wr => ∃ (k : Nat) (ao : Option Addr) (co : Nat), vo = .slice ao k co ∧ vi = .int .i64 k ∧ k ≤ N ∧ Hid (wr.ownsRow w.heap.size 3 1 (.slice ao k co) k (((l.map (·.1)).take k).map encZ)) ∧ Below w.heap.size w wr) (fun _ vi _ => N - (intOf vi).toNat)
  case atStart => exact ⟨0, none, 0, rfl, rfl, by omega, World.ownsRow_nil _ _ _ _, Below.refl _ _⟩
  case round =>
    obtain ⟨k, ao, co, rfl, rfl, hk, HO, hB⟩ := hrel
    by_cases hlt : k < N
    · have hlt' : k < l.length := by rw [HN.out]; exact hlt
      obtain ⟨a, c, d1, hcells⟩ := HC2.out wr hB
      obtain ⟨g, rfl, t0⟩ := hcells k hlt'
      obtain ⟨ao2, co2, w3, q1, q2, q3⟩ := push_int HO.out (Below.refl wr.heap.size wr) hB.size (by omega) (l[k]'hlt').1
      rw [← HT.out k hlt'] at q2
      have Q1 := Lib.hid q1
      have Q2 := Lib.hid q2
      have Q3 := Lib.hid (hB.trans q3)
      clear q1 q2 q3 HC2 HT HTA hcells HO
      generalize (l[k]'hlt').1 = x at *
      go_wp2_with (at_builtin; refine wpList_append_run Q1.out rfl rfl rfl rfl rfl ?_)
      go_roundw
      case rel => exact ⟨k + 1, ao2, co2, rfl, by go_num, by omega, Q2, Q3.out⟩
      case measure => simp [intOf]; omega
    · obtain rfl : k = N := by omega
      rw [HTA.out] at HO
      clear HC2 HT
      go_wp2
      go_ret
      exact ⟨ao, co, rfl, HO.out, hB⟩
end
/-- a row of integers -/
def IRow (w : World) (a : Option Addr) (l : List Int) : Prop := ∀ i, i < l.length → ∃ g, a = some ⟨g, 0, none⟩ ∧ g < w.heap.size ∧ w.cell? ⟨g, i, none⟩ = some (.int .i64 (l.getD i 0))
theorem IRow.made {w w' : World} {a : Option Addr} {l : List Int} (h : IRow w a l) (hB : Below w.heap.size w w') : IRow w' a l := fun i hi => by
  obtain ⟨g, ha, hg, hc⟩ := h i hi
  exact ⟨g, ha, by have := hB.size; omega, (hB.cell (p := ⟨g, i, none⟩) hg).trans hc⟩
theorem iRow_of {w : World} {base : Nat} {a : Option Addr} {cap : Nat} {l : List Int} (h : w.ownsRow base 3 1 (.slice a l.length cap) l.length (l.map encZ)) : IRow w a l := fun i hi => by
  rcases h.2 with ⟨he, h0⟩ | ⟨g, cap', cur, he, _⟩
  · omega
  · simp only [Value.slice.injEq] at he
    obtain ⟨rfl, -, rfl⟩ := he
    have hl := h.lt g rfl
    refine ⟨g, rfl, hl.2, ?_⟩
    rw [h.cellAt i (by omega), List.getElem?_map, List.getElem?_eq_getElem (by omega), List.getD_eq_getElem?_getD, List.getElem?_eq_getElem (by omega)]; rfl
set_option maxHeartbeats 1000000 in
set_option maxRecDepth 100000 in
theorem sameInts_any (a1 a2 : Option Addr) (c1 c2 : Nat) (l : List Int) (w : World) (hl : l.length ≤ 100000) (h1 : IRow w a1 l) (h2 : IRow w a2 l) :
    Calls Tryz.prog 25 #[.slice a1 l.length c1, .slice a2 l.length c2] w fun e w' => e = .returned (.bool true) ∧ Below w.heap.size w w' := by
  have H1 := Lib.hid h1
  have H2 := Lib.hid h2
  clear h1 h2
  generalize hm : l.length = m at *
  go_enter Tryz.func25, Tryz.ntmps25
  go_wp2
  go_loopw [13] (fun v wr => ∃ (k q : Nat), v = .int .i64 k ∧ k ≤ m ∧ wr = w.drewN q) (fun v _ => m - (intOf v).toNat)
  case atStart => exact ⟨0, 0, rfl, by omega, rfl⟩
  case round =>
    obtain ⟨k, q, rfl, hk, rfl⟩ := hrel
    by_cases hlt : k < m
    · obtain ⟨g1, rfl, hg1, e1⟩ := H1.out k (by omega)
      obtain ⟨g2, rfl, hg2, e2⟩ := H2.out k (by omega)
      generalize l.getD k 0 = v at *
      have f1 : ∀ p, (w.drewN p).cell? ⟨g1, k, none⟩ = some (.int .i64 v) := fun p => e1
      have f2 : ∀ p, (w.drewN p).cell? ⟨g2, k, none⟩ = some (.int .i64 v) := fun p => e2
      go_upto_region 6 with fail
      go_quiet (fail)
      go_wp2
      go_roundw
      case rel => exact ⟨k + 1, _, by go_num, by omega, rfl⟩
      case measure => simp [intOf]; omega
    · obtain rfl : k = m := by omega
      go_wp2
      go_ret
      exact ⟨rfl, qdrew_below w q⟩
end Go.Proofs.YtdoankamaobkoaaGreat
