/- A slice of acts that came in: its cells, and its texts' sizes by the bulk. -/
import Derived.Test.YtdoankamaobkoaaGreatQWalk
import Derived.Test.YtdoankamaobkoaaGreatRows
import Derived.SizedLaws
import Derived.Deep.Slices
import Derived.Deep.Fields
import Derived.ChangeSame
set_option linter.unusedSimpArgs false
set_option linter.unusedVariables false
namespace Go.Proofs.YtdoankamaobkoaaGreat
open Go.ChangeShapes Go.WideShapes Go.Deep Go.RowKit

theorem act_cells : Tryz.prog.cellsOf 34 = 3 := by kernel_rfl
theorem act_fields : ∃ f0 f1 f2 : Field, Tryz.prog.underlying 34 = some (.struct #[f0, f1, f2]) ∧ f0.type = 3 ∧ f1.type = 3 ∧ f2.type = 9 ∧ f0.offset = 0 ∧ f1.offset = 1 ∧ f2.offset = 2 :=
  ⟨_, _, _, Tryz.underlying34, rfl, rfl, rfl, rfl, rfl, rfl⟩
theorem cells_int : Tryz.prog.cellsOf 3 = 1 := by kernel_rfl
theorem cells_string : Tryz.prog.cellsOf 9 = 1 := by kernel_rfl

theorem bulk_pos {H : Type} (d : DataW H) : 1 ≤ Rows.uptoBulk d := by
  cases d with
  | lit l => cases l <;> simp [Rows.uptoBulk]
  | nil => simp [Rows.uptoBulk]
  | ptr d => simp [Rows.uptoBulk]
  | slice elems spare => simp [Rows.uptoBulk]
  | agg parts => simp [Rows.uptoBulk]
  | iface t d => simp [Rows.uptoBulk]
  | map entries => simp [Rows.uptoBulk]
  | held h => simp [Rows.uptoBulk]
theorem bulk_in {H : Type} : ∀ {l : List (DataW H)} {d : DataW H}, d ∈ l → Rows.uptoBulk d ≤ Rows.uptoBulkAll l
  | y :: r, d, h => by
    simp only [Rows.uptoBulkAll]
    rcases List.mem_cons.1 h with rfl | h
    · omega
    · have := bulk_in h; omega
theorem bulk_len {H : Type} : ∀ (l : List (DataW H)), l.length ≤ Rows.uptoBulkAll l
  | [] => by simp [Rows.uptoBulkAll]
  | y :: r => by have := bulk_pos y; have := bulk_len r; simp only [Rows.uptoBulkAll, List.length_cons]; omega
set_option maxRecDepth 100000 in
theorem qacts_open {H : Type} {enc : TypeId × Value → H} {W : World} {base : Nat} {spare : Nat → Bool} {held : Bool} {fuel : Nat} {a : Option Addr} {len cap : Nat} {x : DataW H × List MemPlace}
    (h : DataW.trod enc Tryz.prog W base spare held fuel 22 [.slice a len cap] = some x) (hwt : Rows.uptoBulk x.1 ≤ 1048576) : QActs W a len ∧ len ≤ 1048576 := by
  rcases open_slice Tryz.underlying22 h with ⟨h0, _⟩ | ⟨a', len', cap', m, n, D, Pl, hcs, hb, hl, hm, hmm, hx, hi⟩
  · simp at h0
    obtain ⟨rfl, rfl, rfl⟩ := h0
    exact ⟨fun i hi => by omega, by omega⟩
  · simp at hcs
    obtain ⟨rfl, rfl, rfl⟩ := hcs
    subst hx
    simp only [Rows.uptoBulk] at hwt
    have hmx : len ≤ 1048576 := by
      have h := bulk_len ((List.range len).map D)
      simp only [List.length_map, List.length_range] at h
      omega
    refine ⟨fun i hil => ?_, hmx⟩
    obtain ⟨cs, hc, ht⟩ := hi i (by rw [hmm]; split <;> omega)
    rw [act_cells] at hc
    obtain ⟨f0, f1, f2, hu, t0, t1, t2, o0, o1, o2⟩ := act_fields
    obtain ⟨ys, n', _, hDi, hlen, hyl, hf⟩ := DataW.trod_struct hu ht
    obtain ⟨_, hcl, hat⟩ := World.cells?_some hc
    rw [act_cells] at hlen
    match cs, hlen with
    | [v0, v1, v2], _ =>
      have g0 := hf 0 f0 rfl
      have g1 := hf 1 f1 rfl
      have g2 := hf 2 f2 rfl
      rw [t0, o0, cells_int] at g0
      rw [t1, o1, cells_int] at g1
      rw [t2, o2, cells_string] at g2
      match ys, hyl with
      | [y0, y1, y2], _ =>
        obtain ⟨k, e0, _, w0⟩ := DataW.trod_int Tryz.underlying3 g0
        obtain ⟨t, e1, _, w1⟩ := DataW.trod_int Tryz.underlying3 g1
        obtain ⟨s, e2, hy2, w2⟩ := DataW.trod_string Tryz.underlying9 g2
        simp at e0 e1 e2
        subst e0 e1 e2
        have c0 := hat 0 (by omega)
        have c1 := hat 1 (by omega)
        have c2 := hat 2 (by omega)
        rw [add_add] at c0 c1 c2
        obtain ⟨b, off, sp⟩ := a'
        have hsp : sp = none := by
          cases sp with
          | none => rfl
          | some t =>
            obtain ⟨cs0, hcc, _⟩ := hi 0 (by rw [hmm]; split <;> omega)
            rw [act_cells] at hcc
            obtain ⟨_, hl0, hat0⟩ := World.cells?_some hcc
            have z := hat0 0 (by omega)
            rw [List.getElem?_eq_getElem (by omega)] at z
            simp only [Nat.zero_mul, Addr.add, if_true, World.cell?] at z
            split at z <;> simp at z
        subst hsp
        have hadd : ∀ j, Addr.add ⟨b, off, none⟩ j = ⟨b, off + j, none⟩ := by intro j; unfold Addr.add; split <;> simp_all
        rw [hadd] at c0 c1 c2
        have hsz : s.size ≤ 140737488355328 := by
          have hD := congrArg Prod.fst hDi
          simp only [List.map_cons, List.map_nil, hy2] at hD
          have h := bulk_in (List.mem_map.2 ⟨i, List.mem_range.2 hil, rfl⟩ : D i ∈ (List.range len).map D)
          rw [hD] at h
          simp only [Rows.uptoBulk, Rows.uptoBulkAll] at h
          have : s.data.toList.length = s.size := by rw [Array.length_toList]; rfl
          omega
        refine ⟨b, off, k, t, s, rfl, World.block_lt_of_cell? W _ c0, ?_, w0, ?_, w1, ?_, hsz⟩
        · simpa using c0
        · simpa [Nat.add_assoc] using c1
        · simpa [Nat.add_assoc] using c2
end Go.Proofs.YtdoankamaobkoaaGreat
