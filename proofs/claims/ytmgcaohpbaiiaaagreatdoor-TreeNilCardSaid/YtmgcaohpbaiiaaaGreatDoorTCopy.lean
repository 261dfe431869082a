/- Copies within rows of entries; what is asked of the heap at a step of a region. -/
import Derived.Test.YtmgcaohpbaiiaaaGreatDoorTMem
import Derived.Lib.Overlaps
import Derived.Lib.AppendZerosOnto
import Derived.Laws.CopyRow
set_option linter.unusedSimpArgs false
set_option linter.unusedVariables false
namespace Go.Proofs.YtmgcaohpbaiiaaaGreatDoor
open Go.RowKit Go.Maps Go.Shelf Go.Builtin

theorem step_append_run {P : Program} {w w' : World} {v v' x : Value} {ops : Array Oper} {o : Oper} {a : Act} {K : Act → World → Prop} {Q : Exit → Act → World → Prop} {E : Prop} {s y : Operand} {t u ty : TypeId} (hr : (Builtin.append_ #[t, u] ty #[v, x]).run P w = .ok v' w') (hgd : o.guard = none) (hty : o.type = ty)
    (ho : o.op = .call { callee := .builtin .append, args := #[s, y], argTypes := #[t, u] }) (hs : a.eval s = v) (hy : a.eval y = x)
    (h : K (a.put o.dst v') w') : if Region.wanted o (yielded ops a.tmps) = true then Oper.wp P o a w K Q else E := by
  have hw : Region.wanted o (yielded ops a.tmps) = true := by simp [Region.wanted, hgd]
  rw [if_pos hw]
  subst hty
  unfold Oper.wp execOp
  simp only [ho, resolve, invoke, builtin, Sem.run_bind, Sem.run_pure, Result.andThen_ok, List.map_toArray, List.map_cons, List.map_nil, hs, hy, hr]
  exact h
theorem wpList_append_run2 {P : Program} {w w' : World} {v v' x : Value} {ops : Array Oper} {rest : List Oper} {o : Oper} {a : Act} {Q : Exit → Act → World → Prop} {s y : Operand} {t u ty : TypeId} (hr : (Builtin.append_ #[t, u] ty #[v, x]).run P w = .ok v' w') (hgd : o.guard = none) (hty : o.type = ty)
    (ho : o.op = .call { callee := .builtin .append, args := #[s, y], argTypes := #[t, u] }) (hs : a.eval s = v) (hy : a.eval y = x) (h : wpList P ops Q rest (a.put o.dst v') w') : wpList P ops Q (o :: rest) a w :=
  wpList_plain hgd fun K hK => by
    subst hty
    unfold Oper.wp execOp
    simp only [ho, resolve, invoke, builtin, Sem.run_bind, Sem.run_pure, Result.andThen_ok, List.map_toArray, List.map_cons, List.map_nil, hs, hy, hr]
    exact hK _ _ h
/-- a copy of entries into a row whose block is known whole -/
theorem run_copy_ent (w : World) (g o dn dc : Nat) (a : Addr) (sn sc k : Nat) (cur : Array Value) (t : TypeId) (cs : List Value)
    (hg : w.heap[g]? = some (.cells cur t (0, 0))) (hk : Nat.min sn dn = k) (hn : cs.length = k * 2)
    (hsrc : ∀ j v, cs[j]? = some v → w.cell? (a.add j) = some v) (hfit : o + cs.length ≤ cur.size) (h1 : ∀ v ∈ cs, v.oneCell' = true) :
    (Builtin.copy_ #[31, 31] 3 #[.slice (some ⟨g, o, none⟩) dn dc, .slice (some a) sn sc]).run Tryz.prog w =
      .ok (goInt k) (w.setRow g (cur.toList.take o ++ cs ++ cur.toList.drop (o + cs.length)).toArray) := by
  have hl := run_loadCells_list (P := Tryz.prog) w a cs hsrc
  have hst := run_storeCells_at Tryz.prog g o t cs 0 cur w hg (by simpa using hfit) h1
  rw [Nat.add_zero] at hst
  obtain ⟨i0, hi, hz0, hz1, hz2⟩ := info_parts info_ent
  subst hk
  simp [Builtin.copy_, run_underlying Tryz.underlying31, Builtin.lenOf, Builtin.firstCells, sizeOf, typeInfo, hi, hz1, ← hn, hl, hst]
theorem run_clear_ent (w : World) (ty : TypeId) (g o n c : Nat) (cur : Array Value) (t : TypeId) (hg : w.heap[g]? = some (.cells cur t (0, 0))) (hfit : o + n * 2 ≤ cur.size) (hn : 0 < n) :
    (Builtin.clear_ #[31] ty #[.slice (some ⟨g, o, none⟩) n c]).run Tryz.prog w =
      .ok (.tuple #[]) (w.setRow g (cur.toList.take o ++ List.replicate (n * 2) (Value.string ⟨#[]⟩) ++ cur.toList.drop (o + n * 2)).toArray) := by
  obtain ⟨i0, hi, hz0, hz1, hz2⟩ := info_parts info_ent
  have hzc : (Builtin.zeroCells (Value.agg #[.string ⟨#[]⟩, .string ⟨#[]⟩]).cells n).toList = List.replicate (n * 2) (Value.string ⟨#[]⟩) := by
    simp [Builtin.zeroCells, Value.cells]
    apply List.ext_getElem
    · simp
    · intro i h1 h2
      simp
      rcases Nat.mod_two_eq_zero_or_one i with h | h <;> simp [h]
  have hst := run_storeCells_at Tryz.prog g o t (List.replicate (n * 2) (Value.string ⟨#[]⟩)) 0 cur w hg (by simpa using hfit) (by intro v hv; rw [List.eq_of_mem_replicate hv]; rfl)
  simp only [Nat.add_zero, List.length_replicate] at hst
  have hns : n ≠ 0 := by omega
  simp [Builtin.clear_, run_underlying Tryz.underlying31, zeroValue, typeInfo, hi, hz0, hzc, hst, Result.andThen]
theorem EOwn.of_block {w : World} {B g cap : Nat} {cur : Array Value} {l : List Ent} (hg : w.heap[g]? = some (.cells cur 59 (0, 0))) (hb : B ≤ g) (hn : l.length ≤ cap) (hm : cap ≤ maxLen) (hs : cur.size = cap * 2) (ht : cur.toList.take (l.length * 2) = entCells l) :
    EOwn w B (.slice (some ⟨g, 0, none⟩) l.length cap) l := ⟨entCells_len l, .inr ⟨g, cap, cur, rfl, hb, hg, hn, hm, hs, ht⟩⟩
theorem EOwn.block {w : World} {B n c : Nat} {a : Addr} {l : List Ent} (h : EOwn w B (.slice (some a) n c) l) :
    ∃ g cur, a = ⟨g, 0, none⟩ ∧ n = l.length ∧ B ≤ g ∧ w.heap[g]? = some (.cells cur 59 (0, 0)) ∧ l.length ≤ c ∧ c ≤ maxLen ∧ cur.size = c * 2 ∧ cur.toList.take (l.length * 2) = entCells l := by
  rcases h.2 with ⟨hv, h0⟩ | ⟨g, cap, cur, hv, hb, hg, hn, hm, hs, ht⟩
  · simp at hv
  · simp at hv
    obtain ⟨rfl, rfl, rfl⟩ := hv
    exact ⟨g, cur, rfl, rfl, hb, hg, hn, hm, hs, ht⟩
/-- entries between others -/
def insL (l : List Ent) (i : Nat) (m : List Ent) : List Ent := l.take i ++ m ++ l.drop i
theorem cur_cell {w : World} {g : Nat} {cur : Array Value} {T : TypeId} (hg : w.heap[g]? = some (.cells cur T (0, 0))) {l : List Ent} (ht : cur.toList.take (l.length * 2) = entCells l) {k : Nat} {u : Value} (hu : (entCells l)[k]? = some u) : w.cell? ⟨g, k, none⟩ = some u := by
  have hk := (List.getElem?_eq_some_iff.1 hu).1
  rw [entCells_len] at hk
  rw [← ht, List.getElem?_take, if_pos hk] at hu
  rw [cell_of hg, ← Array.getElem?_toList]
  exact hu
/-- what stands from o on, moved to o', the row before o' as it was: the list -/
theorem take_shift {cur : List Value} {cs : List Value} {n o : Nat} (hn : o + cs.length = n) (hc : o ≤ cur.length) : (cur.take o ++ cs ++ cur.drop (o + cs.length)).take n = cur.take o ++ cs := by
  rw [List.take_left' (by rw [List.length_append, List.length_take]; omega)]
end Go.Proofs.YtmgcaohpbaiiaaaGreatDoor
