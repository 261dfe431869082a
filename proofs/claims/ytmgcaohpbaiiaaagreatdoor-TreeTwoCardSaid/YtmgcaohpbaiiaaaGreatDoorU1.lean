/- Entries, and pages of entries, as plain data · Rows of entries in memory · leaf.Size; tree.must, down, settle · Copies within rows of entries; what is asked of the heap at a step of a region · slices.Clone, Delete at entries. -/
import Derived.Test.YtmgcaohpbaiiaaaGreatDoorS1
import Derived.Maps.AppendAt
import Derived.Lib.AppendStr
import Derived.Sort.Walk0
import Derived.Defers
import Derived.Recover
import Derived.Lib.Overlaps
import Derived.Lib.AppendZerosOnto
import Derived.Laws.CopyRow
import Derived.Deep.RegionLaw
import Derived.Lib.SliceRun
namespace Go.Proofs.YtmgcaohpbaiiaaaGreatDoor
/-! TEnt -/
section
set_option linter.unusedSimpArgs false
set_option linter.unusedVariables false
open Go.RowKit Go.Maps Go.Shelf

abbrev Ent := ByteArray × ByteArray
def ltB (a b : ByteArray) : Bool := Op.bytesLess a.toList b.toList
def entCells (l : List Ent) : List Value := l.flatMap fun q => [.string q.1, .string q.2]
theorem entCells_len (l : List Ent) : (entCells l).length = l.length * 2 := by
  induction l with
  | nil => rfl
  | cons q L ih => unfold entCells at ih ⊢; rw [List.flatMap_cons, List.length_append, ih]; simp; omega
theorem entCells_get : ∀ (l : List Ent) (i : Nat) (h : i < l.length), (entCells l)[i * 2]? = some (.string l[i].1) ∧ (entCells l)[i * 2 + 1]? = some (.string l[i].2)
  | p :: r, 0, _ => by simp [entCells]
  | p :: r, i + 1, h => by
    have ih := entCells_get r i (by simpa using h)
    have e : entCells (p :: r) = .string p.1 :: .string p.2 :: entCells r := by simp [entCells]
    rw [e, show (i + 1) * 2 = i * 2 + 1 + 1 by omega]
    simpa [Nat.add_assoc] using ih
theorem entCells_append (l m : List Ent) : entCells (l ++ m) = entCells l ++ entCells m := by simp [entCells]
theorem entCells_one (l : List Ent) : ∀ u ∈ entCells l, u.oneCell' = true := by
  intro u hu
  obtain ⟨q, _, hq⟩ := List.mem_flatMap.1 hu
  simp at hq
  rcases hq with rfl | rfl <;> rfl
theorem entCells_take (l : List Ent) (k : Nat) : entCells (l.take k) = (entCells l).take (k * 2) := by
  by_cases h : k ≤ l.length
  · conv => rhs; rw [← List.take_append_drop k l, entCells_append]
    rw [List.take_left' (by rw [entCells_len, List.length_take]; omega)]
  · rw [List.take_of_length_le (by omega), List.take_of_length_le (by rw [entCells_len]; omega)]
theorem entCells_drop (l : List Ent) (k : Nat) : entCells (l.drop k) = (entCells l).drop (k * 2) := by
  by_cases h : k ≤ l.length
  · conv => rhs; rw [← List.take_append_drop k l, entCells_append]
    rw [List.drop_left' (by rw [entCells_len, List.length_take]; omega)]
  · rw [List.drop_of_length_le (by omega), List.drop_of_length_le (by rw [entCells_len]; omega)]; rfl

/-! ### a page -/
def lSum (l : List Ent) : Nat := (l.map fun q => 2 + q.1.size + q.2.size).sum
def lSize (l : List Ent) : Nat := 2 + lSum l
theorem lSum_append (l m : List Ent) : lSum (l ++ m) = lSum l + lSum m := by simp [lSum]
theorem lSum_succ (l : List Ent) {k : Nat} (h : k < l.length) : lSum (l.take (k + 1)) = lSum (l.take k) + (2 + l[k].1.size + l[k].2.size) := by
  rw [List.take_succ_eq_append_getElem h, lSum_append]; simp [lSum]
theorem lSum_take_le (l : List Ent) (k : Nat) : lSum (l.take k) ≤ lSum l := by
  conv => rhs; rw [← List.take_append_drop k l, lSum_append]
  omega
theorem lSum_len (l : List Ent) : 2 * l.length ≤ lSum l := by
  induction l with
  | nil => simp [lSum]
  | cons q r ih => simp only [lSum, List.map_cons, List.sum_cons, List.length_cons] at ih ⊢; omega
def inB (q : Ent) : Bool := decide (q.1.size ≤ 32) && decide (q.2.size ≤ 64)
def ascB : List Ent → Bool
  | [] => true
  | [_] => true
  | a :: b :: r => ltB a.1 b.1 && ascB (b :: r)
theorem ascB_get : ∀ {l : List Ent}, ascB l = true → ∀ i (h : i + 1 < l.length), ltB (l[i]'(by omega)).1 l[i + 1].1 = true
  | [], _, _, h => by simp at h
  | [_], _, _, h => by simp at h
  | a :: b :: r, hh, 0, h => by simp [ascB] at hh; exact hh.1
  | a :: b :: r, hh, i + 1, h => by simp [ascB] at hh; exact ascB_get hh.2 i (by simpa using h)
/-- is a list one that a page of a kind may hold? -/
def okB (kind : Nat) (l : List Ent) : Bool := (kind == 1 || kind == 2) && (l.all inB && (ascB l && decide (lSize l ≤ 256)))
structure Fine (kind : Nat) (l : List Ent) : Prop where
  kind : kind = 1 ∨ kind = 2
  all : ∀ q ∈ l, q.1.size ≤ 32 ∧ q.2.size ≤ 64
  asc : ascB l = true
  size : lSize l ≤ 256
theorem okB_fine {kind : Nat} {l : List Ent} : okB kind l = true ↔ Fine kind l := by
  constructor
  · intro h
    simp [okB, inB, List.all_eq_true] at h
    exact ⟨h.1, fun q hq => h.2.1 q.1 q.2 hq, h.2.2.1, h.2.2.2⟩
  · intro h
    simp [okB, inB, List.all_eq_true]
    exact ⟨h.kind, fun a b hq => h.all (a, b) hq, h.asc, h.size⟩
theorem Fine.len {kind : Nat} {l : List Ent} (h : Fine kind l) : l.length ≤ 127 := by
  have := lSum_len l
  have := h.size
  unfold lSize at this
  omega
def recB (q : Ent) : ByteArray := (⟨#[UInt8.ofNat q.1.size]⟩ ++ q.1) ++ (⟨#[UInt8.ofNat q.2.size]⟩ ++ q.2)
def recsB (l : List Ent) : ByteArray := l.foldr (fun q s => recB q ++ s) ⟨#[]⟩
def rawB (kind : Nat) (l : List Ent) : ByteArray := ⟨#[UInt8.ofNat kind, UInt8.ofNat l.length]⟩ ++ recsB l
def packB (kind : Nat) (l : List Ent) : ByteArray := padB (rawB kind l) 256
theorem recB_size (q : Ent) : (recB q).size = 2 + q.1.size + q.2.size := by
  unfold recB
  simp only [ByteArray.size_append]
  have h1 : (⟨#[UInt8.ofNat q.1.size]⟩ : ByteArray).size = 1 := rfl
  have h2 : (⟨#[UInt8.ofNat q.2.size]⟩ : ByteArray).size = 1 := rfl
  omega
theorem recsB_cons (q : Ent) (l : List Ent) : recsB (q :: l) = recB q ++ recsB l := rfl
theorem recsB_append (l m : List Ent) : recsB (l ++ m) = recsB l ++ recsB m := by
  induction l with
  | nil => exact (ByteArray.empty_append (b := recsB m)).symm
  | cons q r ih => rw [List.cons_append, recsB_cons, recsB_cons, ih, ByteArray.append_assoc]
theorem recsB_size (l : List Ent) : (recsB l).size = lSum l := by
  induction l with
  | nil => rfl
  | cons q r ih => rw [recsB_cons, ByteArray.size_append, ih, recB_size]; simp [lSum]
theorem rawB_size (kind : Nat) (l : List Ent) : (rawB kind l).size = lSize l := by
  unfold rawB lSize
  rw [ByteArray.size_append, recsB_size]; rfl
theorem packB_size {kind : Nat} {l : List Ent} (h : lSize l ≤ 256) : (packB kind l).size = 256 := padB_size (by rw [rawB_size]; exact h)
theorem recsB_succ (l : List Ent) {k : Nat} (h : k < l.length) : recsB (l.take (k + 1)) = recsB (l.take k) ++ recB l[k] := by
  rw [List.take_succ_eq_append_getElem h, recsB_append]
  exact congrArg (recsB (l.take k) ++ ·) (ByteArray.append_empty (b := recB l[k]))
/-- a page about its k-th entry -/
theorem packB_split (kind : Nat) (l : List Ent) {k : Nat} (h : k < l.length) : ∃ post, packB kind l = (⟨#[UInt8.ofNat kind, UInt8.ofNat l.length]⟩ ++ recsB (l.take k)) ++ (recB l[k] ++ post) := by
  refine ⟨recsB (l.drop (k + 1)) ++ zerosB (256 - (rawB kind l).size), ?_⟩
  have hl : recsB l = recsB (l.take k) ++ (recB l[k] ++ recsB (l.drop (k + 1))) := by
    conv => lhs; rw [← List.take_append_drop k l, List.drop_eq_getElem_cons h, recsB_append, recsB_cons]
  unfold packB padB
  generalize 256 - (rawB kind l).size = z
  unfold rawB
  rw [hl]
  simp only [ByteArray.append_assoc]
end
/-! TMem -/
section
set_option linter.unusedSimpArgs false
set_option linter.unusedVariables false
open Go.RowKit Go.Maps Go.Shelf

theorem info_ent : (Tryz.prog.info? 59).map (fun i => (i.zero, i.size, i.bytes)) = some (some (.agg #[.string ⟨#[]⟩, .string ⟨#[]⟩]), 2, 32) := by kernel_rfl
/-- a slice that shows entries -/
def ERow (w : World) (ao : Option Addr) (l : List Ent) : Prop := ∀ j u, (entCells l)[j]? = some u → ∃ g off, ao = some ⟨g, off, none⟩ ∧ w.cell? ⟨g, off + j, none⟩ = some u
/-- .. whose block is its own, from B on -/
def EOwn (w : World) (B : Nat) (v : Value) (l : List Ent) : Prop := w.ownsRow B 59 2 v l.length (entCells l)
theorem add_none (g o j : Nat) : (⟨g, o, none⟩ : Addr).add j = ⟨g, o + j, none⟩ := Addr.add_lit ..
section
variable {w w' : World} {ao : Option Addr} {l : List Ent} {v : Value} {B : Nat}
theorem ERow.at (h : ERow w ao l) {i : Nat} (hi : i < l.length) : ∃ g off, ao = some ⟨g, off, none⟩ ∧ w.cell? ⟨g, off + i * 2, none⟩ = some (.string l[i].1) ∧ w.cell? ⟨g, off + i * 2 + 1, none⟩ = some (.string l[i].2) := by
  obtain ⟨h1, h2⟩ := entCells_get l i hi
  obtain ⟨g, off, e1, c1⟩ := h _ _ h1
  obtain ⟨g', off', e2, c2⟩ := h _ _ h2
  rw [e1] at e2
  simp at e2
  obtain ⟨rfl, rfl⟩ := e2
  exact ⟨g, off, e1, c1, c2⟩
theorem ERow.nil (w : World) (ao : Option Addr) : ERow w ao [] := fun j u h => by simp [entCells] at h
theorem ERow.keep (h : ERow w ao l) (hk : ∀ g off, ao = some ⟨g, off, none⟩ → g < w.heap.size → w'.heap[g]? = w.heap[g]?) : ERow w' ao l := fun j u hj => by
  obtain ⟨g, off, e, c⟩ := h j u hj
  refine ⟨g, off, e, ?_⟩
  rw [World.cell?_of_block (w := w) (w' := w') (a := ⟨g, off + j, none⟩) (hk g off e (World.block_lt_of_cell? w _ c))]
  exact c
theorem ERow.made (h : ERow w ao l) (hB : Below w.heap.size w w') : ERow w' ao l := h.keep fun g off _ hl => hB.block g hl
theorem ERow.drewN (h : ERow w ao l) (k : Nat) : ERow (w.drewN k) ao l := h.made (drewN_below w k)
theorem ERow.upd {F : Nat → Prop} (h : ERow w ao l) (hu : Upd F w w') (hn : ∀ g off, ao = some ⟨g, off, none⟩ → ¬ F g) : ERow w' ao l := h.keep fun g off e hl => hu.block g hl (hn g off e)
theorem ERow.take (h : ERow w ao l) (k : Nat) : ERow w ao (l.take k) := fun j u hj => by
  rw [entCells_take] at hj
  exact h j u (by rw [List.getElem?_take] at hj; split at hj; exact hj; cases hj)
theorem ERow.drop {g off : Nat} (h : ERow w (some ⟨g, off, none⟩) l) (k : Nat) : ERow w (some ⟨g, off + k * 2, none⟩) (l.drop k) := fun j u hj => by
  rw [entCells_drop, List.getElem?_drop] at hj
  obtain ⟨g', off', e, c⟩ := h _ u hj
  simp at e
  obtain ⟨rfl, rfl⟩ := e
  exact ⟨g, off + k * 2, rfl, by rw [Nat.add_assoc]; exact c⟩
theorem EOwn.parts (h : EOwn w B v l) : ∃ ao c, v = .slice ao l.length c ∧ ERow w ao l ∧ (∀ b, v.ownBlock = some b → B ≤ b ∧ b < w.heap.size) := by
  obtain ⟨ao, c, rfl⟩ := ownsRow_slice h
  refine ⟨ao, c, rfl, fun j u hj => ?_, h.lt⟩
  have hjl := (List.getElem?_eq_some_iff.1 hj).1
  rw [entCells_len] at hjl
  rcases h.2 with ⟨hv, h0⟩ | ⟨g, cap, cur, hv, hb, hg, hn, hm, hs, ht⟩
  · omega
  · simp at hv
    obtain ⟨rfl, rfl⟩ := hv
    refine ⟨g, 0, rfl, ?_⟩
    rw [Nat.zero_add, h.cellAt j (by omega)]
    exact hj
theorem EOwn.keep (h : EOwn w B v l) (hk : ∀ b, v.ownBlock = some b → w'.heap[b]? = w.heap[b]?) : EOwn w' B v l := by
  refine ⟨h.1, ?_⟩
  rcases h.2 with hn | ⟨g, cap, cur, rfl, hb, hg, rest⟩
  · exact .inl hn
  · exact .inr ⟨g, cap, cur, rfl, hb, (hk g (by simp [Value.ownBlock])).trans hg, rest⟩
theorem EOwn.made (h : EOwn w B v l) (hB : Below w.heap.size w w') : EOwn w' B v l := h.keep fun b hb => hB.block b (h.lt b hb).2
theorem EOwn.drewN (h : EOwn w B v l) (k : Nat) : EOwn (w.drewN k) B v l := h.made (drewN_below w k)
theorem EOwn.base {B' : Nat} (h : EOwn w B v l) (hb : B' ≤ B) : EOwn w B' v l := by
  refine ⟨h.1, ?_⟩
  rcases h.2 with hn | ⟨g, cap, cur, rfl, hbb, hg, rest⟩
  · exact .inl hn
  · exact .inr ⟨g, cap, cur, rfl, by omega, hg, rest⟩
theorem EOwn.nil (w : World) (B : Nat) : EOwn w B (.slice none 0 0) [] := World.ownsRow_nil w B _ _
/-- the first entries of a row are a row -/
theorem EOwn.take {ao : Option Addr} {n c : Nat} (h : EOwn w B (.slice ao n c) l) {k : Nat} (hk : k ≤ l.length) (hne : ao ≠ none) : EOwn w B (.slice ao k c) (l.take k) := by
  refine ⟨by rw [entCells_len], ?_⟩
  rw [List.length_take, Nat.min_eq_left hk]
  rcases h.2 with ⟨hv, h0⟩ | ⟨g, cap, cur, hv, hb, hg, hn, hm, hs, ht⟩
  · simp at hv; exact absurd hv.1 hne
  · simp at hv
    obtain ⟨rfl, rfl, rfl⟩ := hv
    refine .inr ⟨g, c, cur, rfl, hb, hg, by omega, hm, hs, ?_⟩
    rw [entCells_take, ← ht, List.take_take, Nat.min_eq_left (by omega)]
end
/-- an append, whatever is appended -/
theorem many_append (te sl : TypeId) (z : Value) (sz by_ : Nat) (hinfo : (Tryz.prog.info? te).map (fun i => (i.zero, i.size, i.bytes)) = some (some z, sz, by_)) (hu : Tryz.prog.underlying sl = some (.slice te)) (hz : z.cells.size = sz) (hsz : 0 < sz) (hby : by_ ≤ 32)
    (w : World) (base : Nat) (v : Value) (n : Nat) (xs : List Value) (hown : w.ownsRow base te sz v n xs) (src : Addr) (m c : Nat) (ys : List Value) (hl : ys.length = m * sz) (hc : ∀ j u, ys[j]? = some u → w.cell? (src.add j) = some u) (h1 : ∀ u ∈ ys, u.oneCell' = true) (hlen : n + m ≤ 1000000000000) (hb : base ≤ w.heap.size) :
    ∃ ao co w3, (Builtin.append_ #[sl, sl] sl #[v, .slice (some src) m c]).run Tryz.prog w = .ok (.slice ao (n + m) co) w3 ∧ w3.ownsRow base te sz (.slice ao (n + m) co) (n + m) (xs ++ ys) ∧ w.grownBy w3 v.ownBlock ∧
      ((Value.slice ao (n + m) co).ownBlock = v.ownBlock ∨ (Value.slice ao (n + m) co).ownBlock = some w.heap.size) := by
  obtain ⟨i0, hi, hz0, hz1, hz2⟩ := info_parts hinfo
  obtain ⟨v3, w3, hr, hown3, hgr, _, hat⟩ := run_append_own_at (P := Tryz.prog) w base sl sl te i0 z sz by_ hu hi hz0 hz1 hz2 hz hsz v n xs hown src m c ys hl hc h1 (by unfold maxLen; omega)
    (by
      have : (n + m) * by_ ≤ (n + m) * 32 := Nat.mul_le_mul_left _ hby
      omega) hb
  obtain ⟨ao, co, rfl⟩ := ownsRow_slice hown3
  exact ⟨ao, co, w3, hr, hown3, hgr, hat⟩
/-- entries appended to a row of entries -/
theorem ent_append (w : World) (B : Nat) (v : Value) (l m : List Ent) (c : Nat) (ao : Option Addr) (hown : EOwn w B v l) (hsrc : ERow w ao m) (hne : m ≠ [] ∨ ∃ g off, ao = some ⟨g, off, none⟩) (hlen : l.length + m.length ≤ 1000000000000) (hb : B ≤ w.heap.size) :
    ∃ ao' co w3, (Builtin.append_ #[31, 31] 31 #[v, .slice ao m.length c]).run Tryz.prog w = .ok (.slice ao' (l.length + m.length) co) w3 ∧ EOwn w3 B (.slice ao' (l.length + m.length) co) (l ++ m) ∧ w.grownBy w3 v.ownBlock ∧
      ((Value.slice ao' (l.length + m.length) co).ownBlock = v.ownBlock ∨ (Value.slice ao' (l.length + m.length) co).ownBlock = some w.heap.size) := by
  have hsome : ∃ g off, ao = some ⟨g, off, none⟩ := by
    rcases hne with hne | hne
    · obtain ⟨q, r, rfl⟩ := List.exists_cons_of_ne_nil hne
      obtain ⟨g, off, e, _⟩ := hsrc 0 (.string q.1) (by simp [entCells])
      exact ⟨g, off, e⟩
    · exact hne
  obtain ⟨g, off, rfl⟩ := hsome
  obtain ⟨a2, c2, w3, hr, ho, hg, ha⟩ := many_append 59 31 _ 2 32 info_ent Tryz.underlying31 rfl (by decide) (by decide) w B v l.length (entCells l) hown ⟨g, off, none⟩ m.length c (entCells m) (entCells_len m)
    (fun j u hj => by
      obtain ⟨g', off', e, hc⟩ := hsrc j u hj
      simp at e
      obtain ⟨rfl, rfl⟩ := e
      rw [add_none]; exact hc) (entCells_one m) hlen hb
  refine ⟨a2, c2, w3, hr, ?_, hg, ha⟩
  unfold EOwn
  rw [List.length_append, entCells_append]
  exact ho
theorem grown_nil_below {w w3 : World} {row : Option Nat} (hg : w.grownBy w3 row) (hr : row = none) : Below w.heap.size w w3 := by
  subst hr
  exact ⟨hg.os, hg.tape, hg.output, hg.size, fun k hk => hg.block k hk (by simp)⟩
/-- .. where what is turned is new since B -/
theorem grown_below {w w3 : World} {row : Option Nat} {B : Nat} (hg : w.grownBy w3 row) (hr : ∀ b, row = some b → B ≤ b) (hB : B ≤ w.heap.size) : Below B w w3 :=
  ⟨hg.os, hg.tape, hg.output, by have := hg.size; omega, fun k hk => hg.block k (by omega) (fun e => by have := hr k e.symm; omega)⟩
end
/-! TSize -/
section
set_option linter.unusedSimpArgs false
set_option linter.unusedVariables false
open Go.RowKit Go.Maps Go.Shelf

theorem must_ok (w : World) : Calls Tryz.prog 44 #[.int .i64 0] w fun e w' => e = .returned (.tuple #[]) ∧ w = w' := by
  go_enter Tryz.func44, Tryz.ntmps44
  go_wp2
  go_end0
  exact ⟨rfl, rfl⟩
theorem down_any (n : Int) (w : World) (h0 : 0 ≤ n) (hn : n ≤ 64) : Calls Tryz.prog 38 #[.int .i64 n] w fun e w' => e = .returned (.int .i64 (n + 1)) ∧ w = w' := by
  have h1 : IntKind.i64.wrap (n + 1) = n + 1 := IntWalk.i64_in _ (by omega)
  have h2 : ¬ (64 < n) := by omega
  go_enter Tryz.func38, Tryz.ntmps38
  go_wp2
  go_ret
  exact ⟨rfl, rfl⟩
/-- nothing has been given up: nothing is caught -/
theorem settle_idle (p : Addr) (w : World) :
    CallsD Tryz.prog 27 #[.pointer (some p)] .returning w fun e u' w' => e = .returned (.tuple #[]) ∧ u' = .returning ∧ w' = w := by
  refine callsD_of_wpS Tryz.func27 rfl fun c₀ cs hu => ?_
  apply wpS_seq
  apply wpS_region
  simp [wpOpsS, go_sem, recoverD, hu, Tryz.ntmps27, Exit.thenS]
  apply wpS_seq
  apply wpS_region
  simp [wpOpsS, go_sem, Exit.thenS]
  refine wpS_cond (t := false) (by simp [Act.eval, Array.replicate]) ?_
  simp only [Bool.false_eq_true, if_false]
  refine wpS_of_wp (wp_skip ?_)
  cases c₀
  simp_all [bodyPostS, results, Tryz.results27]
set_option maxHeartbeats 1000000 in
theorem lsize_any (w : World) (ao : Option Addr) (c : Nat) (l : List Ent) (hl : ERow w ao l) (hn : lSize l ≤ 1000000000) :
    Calls Tryz.prog 87 #[.slice ao l.length c] w fun e w' => e = .returned (.int .i64 (lSize l : Nat)) ∧ Below w.heap.size w w' := by
  have HC : Hid (∀ W, Below w.heap.size w W → ∀ k (hk : k < l.length), ∃ g off, ao = some ⟨g, off, none⟩ ∧ W.cell? ⟨g, off + k * 2, none⟩ = some (.string (l[k]'hk).1) ∧ W.cell? ⟨g, off + k * 2 + 1, none⟩ = some (.string (l[k]'hk).2)) := fun W hB k hk => (hl.made hB).at hk
  have HS : Hid (∀ k (hk : k < l.length), lSize (l.take (k + 1)) = lSize (l.take k) + (2 + (l[k]'hk).1.size + (l[k]'hk).2.size) ∧ lSize (l.take (k + 1)) ≤ 1000000000) := fun k hk => by
    have h1 := lSum_succ l hk
    have h2 := lSum_take_le l (k + 1)
    unfold lSize at hn ⊢
    omega
  have HL := lSum_len l
  have hln : l.length ≤ 1000000000 := by unfold lSize at hn; omega
  have H0 : Hid (lSize (l.take 0) = 2) := by show _ = _; rfl
  have HE : Hid (lSize (l.take l.length) = lSize l) := by show _ = _; rw [List.take_length]
  clear hl HL hn
  obtain ⟨m, HM⟩ : ∃ m, Hid (l.length = m) := ⟨_, Lib.hid rfl⟩
  rw [HM.out] at hln ⊢
  generalize lSize l = tot at *
  go_enter Tryz.func87, Tryz.ntmps87
  go_wp2
  go_loopw [3, 8] (fun u v wr => ∃ (k s : Nat), u = .int .i64 s ∧ v = .int .i64 k ∧ k ≤ m ∧ s ≤ 1000000000 ∧ Hid (lSize (l.take k) = s) ∧ Below w.heap.size w wr) (fun _ v _ => m - (intOf v).toNat)
  case atStart => exact ⟨0, 2, rfl, rfl, by omega, by omega, H0, Below.refl _ _⟩
  case round =>
    obtain ⟨k, s, rfl, rfl, hk, hs, HK, hB⟩ := hrel
    by_cases hlt : k < m
    · have hlt' : k < l.length := by rw [HM.out]; exact hlt
      obtain ⟨g, off, rfl, hc0, hc1⟩ := HC.out wr hB k hlt'
      obtain ⟨e1, e2⟩ := HS.out k hlt'
      rw [HK.out] at e1
      have h2 : s + (2 + l[k].1.size + l[k].2.size) ≤ 1000000000 := by omega
      have HK2 : Hid (lSize (l.take (k + 1)) = s + (2 + l[k].1.size + l[k].2.size)) := e1
      clear e1 e2
      generalize l[k].1 = x at *
      generalize l[k].2 = y at *
      go_wp2
      go_roundw
      case rel => exact ⟨k + 1, s + (2 + x.size + y.size), by first | rfl | (congr 1; done) | (congr 1; go_num), by go_num, by omega, by omega, HK2, hB.alloc (by have := hB.size; omega) _⟩
      case measure => simp [intOf]; omega
    · obtain rfl : k = m := by omega
      have hst : s = tot := by have := HK.out; rw [← HM.out, HE.out] at this; omega
      subst hst
      go_wp2
      go_ret
      exact ⟨rfl, hB⟩
end
/-! TCopy -/
section
set_option linter.unusedSimpArgs false
set_option linter.unusedVariables false
open Go.RowKit Go.Maps Go.Shelf Go.Builtin

theorem step_append_run {P : Program} {w w' : World} {v v' x : Value} {ops : Array Oper} {o : Oper} {a : Act} {K : Act → World → Prop} {Q : Exit → Act → World → Prop} {E : Prop} {s y : Operand} {t u ty : TypeId} (hr : (Builtin.append_ #[t, u] ty #[v, x]).run P w = .ok v' w') (hgd : o.guard = none) (hty : o.type = ty)
    (ho : o.op = .call { callee := .builtin .append, args := #[s, y], argTypes := #[t, u] }) (hs : a.eval s = v) (hy : a.eval y = x)
    (h : K (a.put o.dst v') w') : if Region.wanted o (yielded ops a.tmps) = true then Oper.wp P o a w K Q else E := by
  have hw : Region.wanted o (yielded ops a.tmps) = true := by simp [Region.wanted, hgd]
  rw [if_pos hw]
  subst hty
  unfold Oper.wp execOp
  simp only [ho, resolve, invoke, builtin, Sem.run_bind, Sem.run_pure, Result.andThen_ok, List.map_toArray, List.map_cons, List.map_nil, hs, hy, hr]
  exact h
theorem wpList_append_run2 {P : Program} {w w' : World} {v v' x : Value} {ops : Array Oper} {rest : List Oper} {o : Oper} {a : Act} {Q : Exit → Act → World → Prop} {s y : Operand} {t u ty : TypeId} (hr : (Builtin.append_ #[t, u] ty #[v, x]).run P w = .ok v' w') (hgd : o.guard = none) (hty : o.type = ty)
    (ho : o.op = .call { callee := .builtin .append, args := #[s, y], argTypes := #[t, u] }) (hs : a.eval s = v) (hy : a.eval y = x) (h : wpList P ops Q rest (a.put o.dst v') w') : wpList P ops Q (o :: rest) a w :=
  wpList_plain hgd fun K hK => by
    subst hty
    unfold Oper.wp execOp
    simp only [ho, resolve, invoke, builtin, Sem.run_bind, Sem.run_pure, Result.andThen_ok, List.map_toArray, List.map_cons, List.map_nil, hs, hy, hr]
    exact hK _ _ h
/-- a copy of entries into a row whose block is known whole -/
theorem run_copy_ent (w : World) (g o dn dc : Nat) (a : Addr) (sn sc k : Nat) (cur : Array Value) (t : TypeId) (cs : List Value)
    (hg : w.heap[g]? = some (.cells cur t (0, 0))) (hk : Nat.min sn dn = k) (hn : cs.length = k * 2)
    (hsrc : ∀ j v, cs[j]? = some v → w.cell? (a.add j) = some v) (hfit : o + cs.length ≤ cur.size) (h1 : ∀ v ∈ cs, v.oneCell' = true) :
    (Builtin.copy_ #[31, 31] 3 #[.slice (some ⟨g, o, none⟩) dn dc, .slice (some a) sn sc]).run Tryz.prog w =
      .ok (goInt k) (w.setRow g (cur.toList.take o ++ cs ++ cur.toList.drop (o + cs.length)).toArray) := by
  have hl := run_loadCells_list (P := Tryz.prog) w a cs hsrc
  have hst := run_storeCells_at Tryz.prog g o t cs 0 cur w hg (by simpa using hfit) h1
  rw [Nat.add_zero] at hst
  obtain ⟨i0, hi, hz0, hz1, hz2⟩ := info_parts info_ent
  subst hk
  simp [Builtin.copy_, run_underlying Tryz.underlying31, Builtin.lenOf, Builtin.firstCells, sizeOf, typeInfo, hi, hz1, ← hn, hl, hst]
theorem run_clear_ent (w : World) (ty : TypeId) (g o n c : Nat) (cur : Array Value) (t : TypeId) (hg : w.heap[g]? = some (.cells cur t (0, 0))) (hfit : o + n * 2 ≤ cur.size) (hn : 0 < n) :
    (Builtin.clear_ #[31] ty #[.slice (some ⟨g, o, none⟩) n c]).run Tryz.prog w =
      .ok (.tuple #[]) (w.setRow g (cur.toList.take o ++ List.replicate (n * 2) (Value.string ⟨#[]⟩) ++ cur.toList.drop (o + n * 2)).toArray) := by
  obtain ⟨i0, hi, hz0, hz1, hz2⟩ := info_parts info_ent
  have hzc : (Builtin.zeroCells (Value.agg #[.string ⟨#[]⟩, .string ⟨#[]⟩]).cells n).toList = List.replicate (n * 2) (Value.string ⟨#[]⟩) := by
    simp [Builtin.zeroCells, Value.cells]
    apply List.ext_getElem
    · simp
    · intro i h1 h2
      simp
      rcases Nat.mod_two_eq_zero_or_one i with h | h <;> simp [h]
  have hst := run_storeCells_at Tryz.prog g o t (List.replicate (n * 2) (Value.string ⟨#[]⟩)) 0 cur w hg (by simpa using hfit) (by intro v hv; rw [List.eq_of_mem_replicate hv]; rfl)
  simp only [Nat.add_zero, List.length_replicate] at hst
  have hns : n ≠ 0 := by omega
  simp [Builtin.clear_, run_underlying Tryz.underlying31, zeroValue, typeInfo, hi, hz0, hzc, hst, Result.andThen]
theorem EOwn.of_block {w : World} {B g cap : Nat} {cur : Array Value} {l : List Ent} (hg : w.heap[g]? = some (.cells cur 59 (0, 0))) (hb : B ≤ g) (hn : l.length ≤ cap) (hm : cap ≤ maxLen) (hs : cur.size = cap * 2) (ht : cur.toList.take (l.length * 2) = entCells l) :
    EOwn w B (.slice (some ⟨g, 0, none⟩) l.length cap) l := ⟨entCells_len l, .inr ⟨g, cap, cur, rfl, hb, hg, hn, hm, hs, ht⟩⟩
theorem EOwn.block {w : World} {B n c : Nat} {a : Addr} {l : List Ent} (h : EOwn w B (.slice (some a) n c) l) :
    ∃ g cur, a = ⟨g, 0, none⟩ ∧ n = l.length ∧ B ≤ g ∧ w.heap[g]? = some (.cells cur 59 (0, 0)) ∧ l.length ≤ c ∧ c ≤ maxLen ∧ cur.size = c * 2 ∧ cur.toList.take (l.length * 2) = entCells l := by
  rcases h.2 with ⟨hv, h0⟩ | ⟨g, cap, cur, hv, hb, hg, hn, hm, hs, ht⟩
  · simp at hv
  · simp at hv
    obtain ⟨rfl, rfl, rfl⟩ := hv
    exact ⟨g, cur, rfl, rfl, hb, hg, hn, hm, hs, ht⟩
/-- entries between others -/
def insL (l : List Ent) (i : Nat) (m : List Ent) : List Ent := l.take i ++ m ++ l.drop i
theorem cur_cell {w : World} {g : Nat} {cur : Array Value} {T : TypeId} (hg : w.heap[g]? = some (.cells cur T (0, 0))) {l : List Ent} (ht : cur.toList.take (l.length * 2) = entCells l) {k : Nat} {u : Value} (hu : (entCells l)[k]? = some u) : w.cell? ⟨g, k, none⟩ = some u := by
  have hk := (List.getElem?_eq_some_iff.1 hu).1
  rw [entCells_len] at hk
  rw [← ht, List.getElem?_take, if_pos hk] at hu
  rw [cell_of hg, ← Array.getElem?_toList]
  exact hu
/-- what stands from o on, moved to o', the row before o' as it was: the list -/
theorem take_shift {cur : List Value} {cs : List Value} {n o : Nat} (hn : o + cs.length = n) (hc : o ≤ cur.length) : (cur.take o ++ cs ++ cur.drop (o + cs.length)).take n = cur.take o ++ cs := by
  rw [List.take_left' (by rw [List.length_append, List.length_take]; omega)]
end
/-! TSl -/
section
set_option linter.unusedSimpArgs false
set_option linter.unusedVariables false
open Go.RowKit Go.Maps Go.Shelf

set_option maxHeartbeats 1000000 in
set_option maxRecDepth 100000 in
theorem clone_any (w : World) (ao : Option Addr) (c : Nat) (l : List Ent) (hl : ERow w ao l) (hat : ∀ a, ao = some a → ∃ g off, a = ⟨g, off, none⟩) (hnil : ao = none → l = [] ∧ c = 0) (hn : l.length ≤ 1000000) :
    Calls Tryz.prog 80 #[.slice ao l.length c] w fun e w' => ∃ v, e = .returned v ∧ EOwn w' w.heap.size v l ∧ Below w.heap.size w w' := by
  cases ao with
  | none =>
    obtain ⟨rfl, rfl⟩ := hnil rfl
    have hq : ∀ w : World, (binOp .eql 31 (.slice none 0 0) (.slice none 0 0)).run Tryz.prog w = .ok (.bool true) w := fun w => Lib.run_eql_slice_nil w _ _ none 0 0 0 0 Tryz.underlying31
    go_enter Tryz.func80, Tryz.ntmps80
    go_wp2
    go_ret
    exact ⟨_, rfl, EOwn.nil _ _, Below.refl _ _⟩
  | some a =>
    obtain ⟨g, off, rfl⟩ := hat a rfl
    have H0 : Hid (EOwn (w.alloc (.cells #[] 59)) w.heap.size (.slice (some ⟨w.heap.size, 0, none⟩) 0 0) []) := EOwn.of_block (l := []) (heap_alloc_new' w _) (Nat.le_refl _) (Nat.le_refl _) (by unfold maxLen; omega) rfl rfl
    have hB1 : Below w.heap.size w (w.alloc (.cells #[] 59)) := (Below.refl _ w).alloc (Nat.le_refl _) _
    obtain ⟨a2, c2, w3, hr, ho, hg, ha⟩ := ent_append (w.alloc (.cells #[] 59)) w.heap.size _ [] l c (some ⟨g, off, none⟩) H0.out (hl.made hB1) (.inr ⟨g, off, rfl⟩) (by simp; omega) hB1.size
    have HO := Lib.hid ho
    have HB := Lib.hid (hB1.trans (grown_below hg (fun b hb => by simp [Value.ownBlock] at hb; omega) hB1.size))
    simp only [List.length_nil, Nat.zero_add, List.nil_append] at hr HO
    clear ho hg ha H0 hB1 hl hnil
    generalize l.length = n at *
    have hq : ∀ w : World, (binOp .eql 31 (.slice (some ⟨g, off, none⟩) n c) (.slice none 0 0)).run Tryz.prog w = .ok (.bool false) w := fun w => Lib.run_eql_slice_nil w _ _ (some ⟨g, off, none⟩) n c 0 0 Tryz.underlying31
    go_enter Tryz.func80, Tryz.ntmps80
    go_wp2_with (at_builtin; refine wpList_append_run hr rfl rfl rfl rfl rfl ?_)
    go_ret
    exact ⟨_, rfl, HO.out, HB.out⟩
theorem take_drop_len (l : List Ent) {i : Nat} (h : i < l.length) : (l.take i ++ l.drop (i + 1)).length = l.length - 1 := by simp; omega
set_option maxHeartbeats 2000000 in
set_option maxRecDepth 100000 in
theorem delete_any (w : World) (B : Nat) (v : Value) (l : List Ent) (h : EOwn w B v l) (hB : B ≤ w.heap.size) (i : Nat) (hi : i < l.length) (hn : l.length ≤ 1000000) :
    Calls Tryz.prog 79 #[v, .int .i64 i, .int .i64 ((i : Int) + 1)] w fun e w' => ∃ v', e = .returned v' ∧ EOwn w' B v' (l.take i ++ l.drop (i + 1)) ∧ Below B w w' := by
  obtain ⟨ao, c, rfl, -, -⟩ := h.parts
  cases ao with
  | none => rcases h.2 with ⟨_, h0⟩ | ⟨g, cap, cur, hv, _⟩
            · omega
            · simp at hv
  | some a =>
    obtain ⟨g, cur, rfl, -, hbg, hg, hlc, hcm, hcs, hct⟩ := h.block
    have hlt : (l.take i).length = i := by simp; omega
    have hld : (l.drop (i + 1)).length = l.length - (i + 1) := by simp
    obtain ⟨gA, oA, hA, hsrc⟩ : ∃ gA oA, (if c = i + 1 then (some ⟨g, 0, none⟩ : Option Addr) else some ⟨g, (i + 1) * 2, none⟩) = some ⟨gA, oA, none⟩ ∧ ∀ j u, (entCells (l.drop (i + 1)))[j]? = some u → w.drew.cell? ((⟨gA, oA, none⟩ : Addr).add j) = some u := by
      by_cases hc : c = i + 1
      · refine ⟨g, 0, by simp [hc], fun j u hj => ?_⟩
        rw [List.drop_of_length_le (by omega)] at hj
        simp [entCells] at hj
      · refine ⟨g, (i + 1) * 2, by simp [hc], fun j u hj => ?_⟩
        rw [entCells_drop, List.getElem?_drop] at hj
        rw [add_none]
        exact cur_cell (w := w.drew) hg hct hj
    obtain ⟨i0, hi0, hz0, hz1, hz2⟩ := info_parts info_ent
    have hr := run_append_room (P := Tryz.prog) w.drew 31 31 59 i0 Tryz.underlying31 hi0 g i c cur hg ⟨gA, oA, none⟩ (l.length - (i + 1)) (c - (i + 1)) (entCells (l.drop (i + 1))) (by rw [entCells_len, hld, hz1]) hsrc (entCells_one _) (by omega) (by rw [entCells_len, hz1, hcs, hld]; omega)
    rw [hz1] at hr
    have hcut : (entCells (l.drop (i + 1))).length = (l.length - (i + 1)) * 2 := by rw [entCells_len, hld]
    obtain ⟨cur1, hcur1⟩ : ∃ cur1, cur1 = (cur.toList.take (i * 2) ++ entCells (l.drop (i + 1)) ++ cur.toList.drop (i * 2 + (entCells (l.drop (i + 1))).length)).toArray := ⟨_, rfl⟩
    rw [← hcur1] at hr
    have hg1 : (w.drew.setRow g cur1).heap[g]? = some (.cells cur1 59 (0, 0)) := setRow_heap _ _ _ _ _ _ hg
    have hs1 : cur1.size = c * 2 := by rw [hcur1]; simp only [List.size_toArray, List.length_append, List.length_take, List.length_drop, Array.length_toList, hcut, hcs]; omega
    have ht1 : cur1.toList.take ((l.length - 1) * 2) = entCells (l.take i ++ l.drop (i + 1)) := by
      rw [hcur1, entCells_append, entCells_take, ← hct, List.take_take, Nat.min_eq_left (by omega)]
      simp only
      exact List.take_left' (by rw [List.length_append, List.length_take, hcut, Array.length_toList]; omega)
    have hcl := fun ty => run_clear_ent (w.drew.setRow g cur1) ty g ((l.length - 1) * 2) 1 (c - (l.length - 1)) cur1 59 hg1 (by omega) (by omega)
    obtain ⟨cur2, hcur2⟩ : ∃ cur2, cur2 = (cur1.toList.take ((l.length - 1) * 2) ++ List.replicate (1 * 2) (Value.string ⟨#[]⟩) ++ cur1.toList.drop ((l.length - 1) * 2 + 1 * 2)).toArray := ⟨_, rfl⟩
    rw [← hcur2] at hcl
    have hg2 : ((w.drew.setRow g cur1).setRow g cur2).heap[g]? = some (.cells cur2 59 (0, 0)) := setRow_heap _ _ _ _ _ _ hg1
    have HO : Hid (EOwn ((w.drew.setRow g cur1).setRow g cur2) B (.slice (some ⟨g, 0, none⟩) (l.length - 1) c) (l.take i ++ l.drop (i + 1))) := by
      have := EOwn.of_block (B := B) (l := l.take i ++ l.drop (i + 1)) hg2 hbg (cap := c) (by rw [take_drop_len l hi]; omega) hcm (by rw [hcur2]; simp only [List.size_toArray, List.length_append, List.length_take, List.length_drop, List.length_replicate, Array.length_toList, hs1]; omega) (by
        rw [take_drop_len l hi, ← ht1, hcur2]
        simp only [List.append_assoc]
        exact List.take_left' (by have e := hs1; rw [← Array.length_toList] at e; rw [List.length_take, e]; omega))
      rw [take_drop_len l hi] at this
      exact this
    have HB : Hid (Below B w ((w.drew.setRow g cur1).setRow g cur2)) := below_setRow (below_setRow ((Below.refl _ _).drew) hbg _) hbg _
    clear hsrc hcut hcur1 hg1 hs1 ht1 hcur2 hg2 h hct hg hcs hi0 hz0 hz1 hz2 hlt hld
    generalize (w.drew.setRow g cur1) = W1 at *
    generalize W1.setRow g cur2 = W2 at *
    obtain ⟨n, hn1⟩ : ∃ n, l.length = n + 1 := ⟨l.length - 1, by omega⟩
    rw [hn1] at hi hn hlc hr hcl HO ⊢
    simp only [Nat.add_sub_cancel] at hcl HO
    have e1 : n + 1 - (i + 1) = n - i := by omega
    have e2 : i + (n - i) = n := by omega
    rw [e1, e2] at hr
    have e3 : i ≤ c := by omega
    have e4 : i + 1 ≤ c := by omega
    have e5 : i + 1 ≤ n + 1 := by omega
    have e7 : (0 : Int) ≤ (i : Int) + 1 := by omega
    have e6 : (i : Int) + 1 ≤ (n : Int) + 1 := by omega
    go_enter Tryz.func79, Tryz.ntmps79
    go_upto_region 5 with fail
    have e8 : ¬ c = n := by omega
    have e9 : n ≤ n + 1 := by omega
    have e10 : n + 1 - n = 1 := by omega
    go_region_law (refine step_append_run hr rfl rfl rfl rfl rfl ?_)
    all_goals
      go_wp2
      go_ret
      exact ⟨_, rfl, HO.out, HB.out⟩
end
end Go.Proofs.YtmgcaohpbaiiaaaGreatDoor
