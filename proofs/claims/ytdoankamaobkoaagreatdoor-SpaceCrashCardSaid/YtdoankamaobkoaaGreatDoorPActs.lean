/- A slice of acts that came in: its cells, and its texts' sizes by the weights. -/
import Derived.Test.YtdoankamaobkoaaGreatDoorPlaysWalk
import Derived.SizedLaws
import Derived.Deep.Slices
import Derived.Deep.Fields
import Derived.ChangeSame
set_option linter.unusedSimpArgs false
set_option linter.unusedVariables false
namespace Go.Proofs.YtdoankamaobkoaaGreatDoor
open Go.ChangeShapes Go.WideShapes Go.Deep Go.RowKit

theorem act_cells : Tryz.prog.cellsOf 50 = 3 := by kernel_rfl
theorem act_fields : ∃ f0 f1 f2 : Field, Tryz.prog.underlying 50 = some (.struct #[f0, f1, f2]) ∧ f0.type = 3 ∧ f1.type = 3 ∧ f2.type = 9 ∧ f0.offset = 0 ∧ f1.offset = 1 ∧ f2.offset = 2 :=
  ⟨_, _, _, Tryz.underlying50, rfl, rfl, rfl, rfl, rfl, rfl⟩
theorem cells_int : Tryz.prog.cellsOf 3 = 1 := by kernel_rfl
theorem cells_string : Tryz.prog.cellsOf 9 = 1 := by kernel_rfl

theorem weights_all {H : Type} {P : Program} {e : TypeId} : ∀ {l : List (DataW H)} {d : DataW H} {n : Nat}, d ∈ l → n ∈ d.weights P e → n ∈ DataW.weightsAll P e l
  | y :: r, d, n, hd, hn => by
    simp only [DataW.weightsAll, List.mem_append]
    rcases List.mem_cons.1 hd with rfl | hd
    · exact .inl hn
    · exact .inr (weights_all hd hn)
set_option maxRecDepth 100000 in
theorem acts_open {H : Type} {enc : TypeId × Value → H} {W : World} {base : Nat} {spare : Nat → Bool} {held : Bool} {fuel : Nat} {a : Option Addr} {len cap : Nat} {x : DataW H × List MemPlace}
    (h : DataW.trod enc Tryz.prog W base spare held fuel 47 [.slice a len cap] = some x) (hwt : ∀ n ∈ x.1.weights Tryz.prog 47, n ≤ reachBytes) : RowActs W a len ∧ len ≤ 140737488355328 := by
  rcases open_slice Tryz.underlying47 h with ⟨h0, _⟩ | ⟨a', len', cap', m, n, D, Pl, hcs, hb, hl, hm, hmm, hx, hi⟩
  · simp at h0
    obtain ⟨rfl, rfl, rfl⟩ := h0
    exact ⟨fun i hi => by omega, by omega⟩
  · simp at hcs
    obtain ⟨rfl, rfl, rfl⟩ := hcs
    subst hx
    have hlt := reachBytes_lt
    have hmx : len ≤ 140737488355328 := by
      have h := hwt ((((List.range len).map D).length + ((List.range (m - len)).map fun j => D (len + j)).length) * Tryz.prog.bytesOf 50) (by simp only [DataW.weights, Tryz.underlying47]; exact List.mem_cons_self)
      rw [show Tryz.prog.bytesOf 50 = 32 by kernel_rfl] at h
      simp only [List.length_map, List.length_range] at h
      omega
    refine ⟨fun i hil => ?_, hmx⟩
    obtain ⟨cs, hc, ht⟩ := hi i (by rw [hmm]; split <;> omega)
    rw [act_cells] at hc
    obtain ⟨f0, f1, f2, hu, t0, t1, t2, o0, o1, o2⟩ := act_fields
    obtain ⟨ys, n', _, hDi, hlen, hyl, hf⟩ := DataW.trod_struct hu ht
    obtain ⟨_, hcl, hat⟩ := World.cells?_some hc
    rw [act_cells] at hlen
    match cs, hlen with
    | [v0, v1, v2], _ =>
      have g0 := hf 0 f0 rfl
      have g1 := hf 1 f1 rfl
      have g2 := hf 2 f2 rfl
      rw [t0, o0, cells_int] at g0
      rw [t1, o1, cells_int] at g1
      rw [t2, o2, cells_string] at g2
      match ys, hyl with
      | [y0, y1, y2], _ =>
        obtain ⟨k, e0, _, w0⟩ := DataW.trod_int Tryz.underlying3 g0
        obtain ⟨t, e1, _, w1⟩ := DataW.trod_int Tryz.underlying3 g1
        obtain ⟨s, e2, hy2, w2⟩ := DataW.trod_string Tryz.underlying9 g2
        simp at e0 e1 e2
        subst e0 e1 e2
        have c0 := hat 0 (by omega)
        have c1 := hat 1 (by omega)
        have c2 := hat 2 (by omega)
        rw [add_add] at c0 c1 c2
        obtain ⟨b, off, sp⟩ := a'
        have hsp : sp = none := by
          cases sp with
          | none => rfl
          | some t =>
            obtain ⟨cs0, hcc, _⟩ := hi 0 (by rw [hmm]; split <;> omega)
            rw [act_cells] at hcc
            obtain ⟨_, hl0, hat0⟩ := World.cells?_some hcc
            have z := hat0 0 (by omega)
            rw [List.getElem?_eq_getElem (by omega)] at z
            simp only [Nat.zero_mul, Addr.add, if_true, World.cell?] at z
            split at z <;> simp at z
        subst hsp
        have hadd : ∀ j, Addr.add ⟨b, off, none⟩ j = ⟨b, off + j, none⟩ := by intro j; unfold Addr.add; split <;> simp_all
        rw [hadd] at c0 c1 c2
        have hsz : s.size ≤ 140737488355328 := by
          have hD := congrArg Prod.fst hDi
          simp only [List.map_cons, List.map_nil, hy2] at hD
          have h := hwt s.data.toList.length (by
            simp only [DataW.weights, Tryz.underlying47]
            refine List.mem_cons_of_mem _ (List.mem_append.2 (.inl (weights_all (d := D i) (List.mem_map.2 ⟨i, List.mem_range.2 hil, rfl⟩) ?_)))
            rw [hD]
            simp [DataW.weights, DataW.weightsEach, hu])
          have : s.data.toList.length = s.size := by rw [Array.length_toList]; rfl
          omega
        refine ⟨b, off, k, t, s, rfl, World.block_lt_of_cell? W _ c0, ?_, w0, ?_, w1, ?_, hsz⟩
        · simpa using c0
        · simpa [Nat.add_assoc] using c1
        · simpa [Nat.add_assoc] using c2
end Go.Proofs.YtdoankamaobkoaaGreatDoor
