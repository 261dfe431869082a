/- Rows of entries in memory. -/
import Derived.Test.YtmgcaohpbaiiaaaGreatDoorTEnt
set_option linter.unusedSimpArgs false
set_option linter.unusedVariables false
namespace Go.Proofs.YtmgcaohpbaiiaaaGreatDoor
open Go.RowKit Go.Maps Go.Shelf

theorem info_ent : (Tryz.prog.info? 59).map (fun i => (i.zero, i.size, i.bytes)) = some (some (.agg #[.string ⟨#[]⟩, .string ⟨#[]⟩]), 2, 32) := by kernel_rfl
/-- a slice that shows entries -/
def ERow (w : World) (ao : Option Addr) (l : List Ent) : Prop := ∀ j u, (entCells l)[j]? = some u → ∃ g off, ao = some ⟨g, off, none⟩ ∧ w.cell? ⟨g, off + j, none⟩ = some u
/-- .. whose block is its own, from B on -/
def EOwn (w : World) (B : Nat) (v : Value) (l : List Ent) : Prop := w.ownsRow B 59 2 v l.length (entCells l)
theorem add_none (g o j : Nat) : (⟨g, o, none⟩ : Addr).add j = ⟨g, o + j, none⟩ := Addr.add_lit ..
section
variable {w w' : World} {ao : Option Addr} {l : List Ent} {v : Value} {B : Nat}
theorem ERow.at (h : ERow w ao l) {i : Nat} (hi : i < l.length) : ∃ g off, ao = some ⟨g, off, none⟩ ∧ w.cell? ⟨g, off + i * 2, none⟩ = some (.string l[i].1) ∧ w.cell? ⟨g, off + i * 2 + 1, none⟩ = some (.string l[i].2) := by
  obtain ⟨h1, h2⟩ := entCells_get l i hi
  obtain ⟨g, off, e1, c1⟩ := h _ _ h1
  obtain ⟨g', off', e2, c2⟩ := h _ _ h2
  rw [e1] at e2
  simp at e2
  obtain ⟨rfl, rfl⟩ := e2
  exact ⟨g, off, e1, c1, c2⟩
theorem ERow.nil (w : World) (ao : Option Addr) : ERow w ao [] := fun j u h => by simp [entCells] at h
theorem ERow.keep (h : ERow w ao l) (hk : ∀ g off, ao = some ⟨g, off, none⟩ → g < w.heap.size → w'.heap[g]? = w.heap[g]?) : ERow w' ao l := fun j u hj => by
  obtain ⟨g, off, e, c⟩ := h j u hj
  refine ⟨g, off, e, ?_⟩
  rw [World.cell?_of_block (w := w) (w' := w') (a := ⟨g, off + j, none⟩) (hk g off e (World.block_lt_of_cell? w _ c))]
  exact c
theorem ERow.made (h : ERow w ao l) (hB : Below w.heap.size w w') : ERow w' ao l := h.keep fun g off _ hl => hB.block g hl
theorem ERow.drewN (h : ERow w ao l) (k : Nat) : ERow (w.drewN k) ao l := h.made (drewN_below w k)
theorem ERow.upd {F : Nat → Prop} (h : ERow w ao l) (hu : Upd F w w') (hn : ∀ g off, ao = some ⟨g, off, none⟩ → ¬ F g) : ERow w' ao l := h.keep fun g off e hl => hu.block g hl (hn g off e)
theorem ERow.take (h : ERow w ao l) (k : Nat) : ERow w ao (l.take k) := fun j u hj => by
  rw [entCells_take] at hj
  exact h j u (by rw [List.getElem?_take] at hj; split at hj; exact hj; cases hj)
theorem ERow.drop {g off : Nat} (h : ERow w (some ⟨g, off, none⟩) l) (k : Nat) : ERow w (some ⟨g, off + k * 2, none⟩) (l.drop k) := fun j u hj => by
  rw [entCells_drop, List.getElem?_drop] at hj
  obtain ⟨g', off', e, c⟩ := h _ u hj
  simp at e
  obtain ⟨rfl, rfl⟩ := e
  exact ⟨g, off + k * 2, rfl, by rw [Nat.add_assoc]; exact c⟩
theorem EOwn.parts (h : EOwn w B v l) : ∃ ao c, v = .slice ao l.length c ∧ ERow w ao l ∧ (∀ b, v.ownBlock = some b → B ≤ b ∧ b < w.heap.size) := by
  obtain ⟨ao, c, rfl⟩ := ownsRow_slice h
  refine ⟨ao, c, rfl, fun j u hj => ?_, h.lt⟩
  have hjl := (List.getElem?_eq_some_iff.1 hj).1
  rw [entCells_len] at hjl
  rcases h.2 with ⟨hv, h0⟩ | ⟨g, cap, cur, hv, hb, hg, hn, hm, hs, ht⟩
  · omega
  · simp at hv
    obtain ⟨rfl, rfl⟩ := hv
    refine ⟨g, 0, rfl, ?_⟩
    rw [Nat.zero_add, h.cellAt j (by omega)]
    exact hj
theorem EOwn.keep (h : EOwn w B v l) (hk : ∀ b, v.ownBlock = some b → w'.heap[b]? = w.heap[b]?) : EOwn w' B v l := by
  refine ⟨h.1, ?_⟩
  rcases h.2 with hn | ⟨g, cap, cur, rfl, hb, hg, rest⟩
  · exact .inl hn
  · exact .inr ⟨g, cap, cur, rfl, hb, (hk g (by simp [Value.ownBlock])).trans hg, rest⟩
theorem EOwn.made (h : EOwn w B v l) (hB : Below w.heap.size w w') : EOwn w' B v l := h.keep fun b hb => hB.block b (h.lt b hb).2
theorem EOwn.drewN (h : EOwn w B v l) (k : Nat) : EOwn (w.drewN k) B v l := h.made (drewN_below w k)
theorem EOwn.base {B' : Nat} (h : EOwn w B v l) (hb : B' ≤ B) : EOwn w B' v l := by
  refine ⟨h.1, ?_⟩
  rcases h.2 with hn | ⟨g, cap, cur, rfl, hbb, hg, rest⟩
  · exact .inl hn
  · exact .inr ⟨g, cap, cur, rfl, by omega, hg, rest⟩
theorem EOwn.nil (w : World) (B : Nat) : EOwn w B (.slice none 0 0) [] := World.ownsRow_nil w B _ _
/-- the first entries of a row are a row -/
theorem EOwn.take {ao : Option Addr} {n c : Nat} (h : EOwn w B (.slice ao n c) l) {k : Nat} (hk : k ≤ l.length) (hne : ao ≠ none) : EOwn w B (.slice ao k c) (l.take k) := by
  refine ⟨by rw [entCells_len], ?_⟩
  rw [List.length_take, Nat.min_eq_left hk]
  rcases h.2 with ⟨hv, h0⟩ | ⟨g, cap, cur, hv, hb, hg, hn, hm, hs, ht⟩
  · simp at hv; exact absurd hv.1 hne
  · simp at hv
    obtain ⟨rfl, rfl, rfl⟩ := hv
    refine .inr ⟨g, c, cur, rfl, hb, hg, by omega, hm, hs, ?_⟩
    rw [entCells_take, ← ht, List.take_take, Nat.min_eq_left (by omega)]
end
/-- an append, whatever is appended -/
theorem many_append (te sl : TypeId) (z : Value) (sz by_ : Nat) (hinfo : (Tryz.prog.info? te).map (fun i => (i.zero, i.size, i.bytes)) = some (some z, sz, by_)) (hu : Tryz.prog.underlying sl = some (.slice te)) (hz : z.cells.size = sz) (hsz : 0 < sz) (hby : by_ ≤ 32)
    (w : World) (base : Nat) (v : Value) (n : Nat) (xs : List Value) (hown : w.ownsRow base te sz v n xs) (src : Addr) (m c : Nat) (ys : List Value) (hl : ys.length = m * sz) (hc : ∀ j u, ys[j]? = some u → w.cell? (src.add j) = some u) (h1 : ∀ u ∈ ys, u.oneCell' = true) (hlen : n + m ≤ 1000000000000) (hb : base ≤ w.heap.size) :
    ∃ ao co w3, (Builtin.append_ #[sl, sl] sl #[v, .slice (some src) m c]).run Tryz.prog w = .ok (.slice ao (n + m) co) w3 ∧ w3.ownsRow base te sz (.slice ao (n + m) co) (n + m) (xs ++ ys) ∧ w.grownBy w3 v.ownBlock ∧
      ((Value.slice ao (n + m) co).ownBlock = v.ownBlock ∨ (Value.slice ao (n + m) co).ownBlock = some w.heap.size) := by
  obtain ⟨i0, hi, hz0, hz1, hz2⟩ := info_parts hinfo
  obtain ⟨v3, w3, hr, hown3, hgr, _, hat⟩ := run_append_own_at (P := Tryz.prog) w base sl sl te i0 z sz by_ hu hi hz0 hz1 hz2 hz hsz v n xs hown src m c ys hl hc h1 (by unfold maxLen; omega)
    (by
      have : (n + m) * by_ ≤ (n + m) * 32 := Nat.mul_le_mul_left _ hby
      omega) hb
  obtain ⟨ao, co, rfl⟩ := ownsRow_slice hown3
  exact ⟨ao, co, w3, hr, hown3, hgr, hat⟩
/-- entries appended to a row of entries -/
theorem ent_append (w : World) (B : Nat) (v : Value) (l m : List Ent) (c : Nat) (ao : Option Addr) (hown : EOwn w B v l) (hsrc : ERow w ao m) (hne : m ≠ [] ∨ ∃ g off, ao = some ⟨g, off, none⟩) (hlen : l.length + m.length ≤ 1000000000000) (hb : B ≤ w.heap.size) :
    ∃ ao' co w3, (Builtin.append_ #[31, 31] 31 #[v, .slice ao m.length c]).run Tryz.prog w = .ok (.slice ao' (l.length + m.length) co) w3 ∧ EOwn w3 B (.slice ao' (l.length + m.length) co) (l ++ m) ∧ w.grownBy w3 v.ownBlock ∧
      ((Value.slice ao' (l.length + m.length) co).ownBlock = v.ownBlock ∨ (Value.slice ao' (l.length + m.length) co).ownBlock = some w.heap.size) := by
  have hsome : ∃ g off, ao = some ⟨g, off, none⟩ := by
    rcases hne with hne | hne
    · obtain ⟨q, r, rfl⟩ := List.exists_cons_of_ne_nil hne
      obtain ⟨g, off, e, _⟩ := hsrc 0 (.string q.1) (by simp [entCells])
      exact ⟨g, off, e⟩
    · exact hne
  obtain ⟨g, off, rfl⟩ := hsome
  obtain ⟨a2, c2, w3, hr, ho, hg, ha⟩ := many_append 59 31 _ 2 32 info_ent Tryz.underlying31 rfl (by decide) (by decide) w B v l.length (entCells l) hown ⟨g, off, none⟩ m.length c (entCells m) (entCells_len m)
    (fun j u hj => by
      obtain ⟨g', off', e, hc⟩ := hsrc j u hj
      simp at e
      obtain ⟨rfl, rfl⟩ := e
      rw [add_none]; exact hc) (entCells_one m) hlen hb
  refine ⟨a2, c2, w3, hr, ?_, hg, ha⟩
  unfold EOwn
  rw [List.length_append, entCells_append]
  exact ho
theorem grown_nil_below {w w3 : World} {row : Option Nat} (hg : w.grownBy w3 row) (hr : row = none) : Below w.heap.size w w3 := by
  subst hr
  exact ⟨hg.os, hg.tape, hg.output, hg.size, fun k hk => hg.block k hk (by simp)⟩
/-- .. where what is turned is new since B -/
theorem grown_below {w w3 : World} {row : Option Nat} {B : Nat} (hg : w.grownBy w3 row) (hr : ∀ b, row = some b → B ≤ b) (hB : B ≤ w.heap.size) : Below B w w3 :=
  ⟨hg.os, hg.tape, hg.output, by have := hg.size; omega, fun k hk => hg.block k (by omega) (fun e => by have := hr k e.symm; omega)⟩
end Go.Proofs.YtmgcaohpbaiiaaaGreatDoor
