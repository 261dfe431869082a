/- The reference's pager: one cell set, one part turned. -/
import Derived.Test.YtdoankamaobkoaaGreatQCommit
set_option linter.unusedSimpArgs false
set_option linter.unusedVariables false
namespace Go.Proofs.YtdoankamaobkoaaGreat
open Go.RowKit Go.Maps Go.Shelf

section
variable {w w' : World} {r q : Nat} {lv cv bv lgv : Value} {S : Pgr} {L L' : List (Int × Pg)} {G : Nat → Prop}
theorem RMem.as (h : RMem w r q lv cv bv lgv S L) {S' : Pgr} (h1 : S'.room = S.room) (h2 : S'.changed = S.changed) (h3 : S'.reads = S.reads) (h4 : S'.disk = S.disk) : RMem w r q lv cv bv lgv S' L :=
  ⟨by rw [h1, h3]; exact h.r, by rw [h4]; exact h.q, h.list, by rw [h2]; exact h.chg, by rw [h4]; exact h.blk, by rw [h4]; exact h.log, h.ne⟩
theorem RAt.as (h : RAt w r q G S L) {S' : Pgr} (h1 : S'.room = S.room) (h2 : S'.changed = S.changed) (h3 : S'.reads = S.reads) (h4 : S'.disk = S.disk) : RAt w r q G S' L := by
  obtain ⟨lv, cv, bv, lgv, hM, hf⟩ := h
  exact ⟨lv, cv, bv, lgv, hM.as h1 h2 h3 h4, hf⟩
theorem RStp.as (h : RStp w w' r q G S L) {S' : Pgr} (h1 : S'.room = S.room) (h2 : S'.changed = S.changed) (h3 : S'.reads = S.reads) (h4 : S'.disk = S.disk) : RStp w w' r q G S' L := ⟨h.at_.as h1 h2 h3 h4, h.upd⟩
theorem RMem.qd (h : RMem w r q lv cv bv lgv S L) : QD w q bv lgv S.disk := ⟨h.q, h.blk, h.log⟩
theorem RMem.rne (h : RMem w r q lv cv bv lgv S L) : q ≠ r ∧ lv.ownBlock ≠ some r ∧ cv.ownBlock ≠ some r ∧ bv.ownBlock ≠ some r ∧ lgv.ownBlock ≠ some r := by
  have hrow : ∀ {e : TypeId} {size n : Nat} {v : Value} {xs : List Value}, w.ownsRow 0 e size v n xs → e ≠ 55 → v.ownBlock ≠ some r := fun ho hT hv => by
    obtain ⟨cs, hcs⟩ := ownsRow_type ho hv
    rw [h.r] at hcs
    simp at hcs
    exact hT hcs.2.symm
  exact ⟨fun e => by have := h.q; rw [e, h.r] at this; simp at this, hrow h.list (by decide), hrow h.chg (by decide), hrow h.blk (by decide), hrow h.log (by decide)⟩
/-- a number of the pager's own block -/
theorem RMem.reads (h : RMem w r q lv cv bv lgv S L) : RMem (w.setCell ⟨r, 4, none⟩ (.int .i64 (S.reads + 1))) r q lv cv bv lgv { S with reads := S.reads + 1 } L := by
  have hset := heap_setCell_same h.r 4 (.int .i64 (S.reads + 1))
  obtain ⟨n1, n2, n3, n4, n5⟩ := h.rne
  refine ⟨by rw [hset]; rfl, ?_, ownsRow_setCell_other h.list (by exact n2) _, ownsRow_setCell_other h.chg (by exact n3) _, ownsRow_setCell_other h.blk (by exact n4) _, ownsRow_setCell_other h.log (by exact n5) _, h.ne⟩
  rw [Below.heap_setCell _ _ _ _ (by exact n1)]
  exact h.q
theorem RAt.reads (h : RAt w r q G S L) : RStp w (w.setCell ⟨r, 4, none⟩ (.int .i64 (S.reads + 1))) r q G { S with reads := S.reads + 1 } L := by
  obtain ⟨lv, cv, bv, lgv, hM, hf⟩ := h
  exact ⟨⟨lv, cv, bv, lgv, hM.reads, fun b hb => .inl (hf b hb)⟩, (Upd.refl _ w).setCell _ (fun _ => hf r (.inl rfl)) _⟩
/-- another list of changed pages, in a new row -/
theorem RMem.rechg {cv' : Value} {l : Pgs} (h : RMem w r q lv cv bv lgv S L) (hB : Below w.heap.size w w') (hl : w'.ownsRow w.heap.size 78 2 cv' l.length (pageCells l)) : RMem (w'.setCell ⟨r, 3, none⟩ cv') r q lv cv' bv lgv { S with changed := l } L := by
  have hk := h.keep (w' := w') fun b hb => hB.block b (h.fp_lt hb)
  have hset := heap_setCell_same hk.r 3 cv'
  obtain ⟨n1, n2, n3, n4, n5⟩ := hk.rne
  have hrl := lt_of h.r
  refine ⟨by rw [hset]; simp, ?_, ownsRow_setCell_other hk.list (by exact n2) _, ownsRow_setCell_other (ownsRow_base hl (Nat.zero_le _)) (fun e => ?_) _, ownsRow_setCell_other hk.blk (by exact n4) _, ownsRow_setCell_other hk.log (by exact n5) _, fun b hb e => ?_⟩
  · rw [Below.heap_setCell _ _ _ _ (by exact n1)]
    exact hk.q
  · have := (hl.lt r e).1; omega
  · have h1 := (hl.lt b hb).1
    have h2 := h.fp_lt (.inr (.inr (.inr (.inr (.inr e)))))
    omega
theorem RAt.rechg {cv' : Value} {l : Pgs} (h : RAt w r q G S L) (hB : Below w.heap.size w w') (hl : w'.ownsRow w.heap.size 78 2 cv' l.length (pageCells l)) : RStp w (w'.setCell ⟨r, 3, none⟩ cv') r q G { S with changed := l } L := by
  obtain ⟨lv, cv, bv, lgv, hM, hf⟩ := h
  refine ⟨⟨lv, cv', bv, lgv, hM.rechg hB hl, fun b hb => ?_⟩, (Upd.below hB (F := G) (fun x hx hle => by omega)).setCell _ (fun _ => hf r (.inl rfl)) _⟩
  rcases hb with hb | hb | hb | hb | hb | hb
  · exact .inl (hf b (.inl hb))
  · exact .inl (hf b (.inr (.inl hb)))
  · exact .inl (hf b (.inr (.inr (.inl hb))))
  · have := hl.lt b hb; exact .inr (by simpa using this)
  · exact .inl (hf b (.inr (.inr (.inr (.inr (.inl hb))))))
  · exact .inl (hf b (.inr (.inr (.inr (.inr (.inr hb))))))
/-- the disk turned -/
theorem RMem.disk {lgv' : Value} {D : Dsk} (h : RMem w r q lv cv bv lgv S L) (k : QStp q bv lgv lgv' w w' D) : RMem w' r q lv cv bv lgv' { S with disk := D } L := by
  have hq := h.qd
  obtain ⟨n1, n2, n3, n4, n5⟩ := h.rne
  have hrow : ∀ {e : TypeId} {size n : Nat} {v : Value} {xs : List Value}, w.ownsRow 0 e size v n xs → e ≠ 59 → e ≠ 9 → (∀ b, v.ownBlock = some b → lgv.ownBlock ≠ some b) → ∀ b, v.ownBlock = some b → w'.heap[b]? = w.heap[b]? := fun ho h1 h2 h3 b hb => by
    refine k.upd.block b (ho.lt b hb).2 fun hf => ?_
    obtain ⟨cs, hcs⟩ := ownsRow_type ho hb
    rcases hf with rfl | hf | hf
    · rw [h.q] at hcs; simp at hcs; exact h1 hcs.2.symm
    · obtain ⟨cs', hcs'⟩ := ownsRow_type h.blk hf
      rw [hcs] at hcs'; simp at hcs'; exact h2 hcs'.2
    · exact h3 b hb hf
  refine ⟨(k.upd.block r (lt_of h.r) (fun hf => ?_)).trans h.r, k.at_.q, ownsRow_congr h.list (hrow h.list (by decide) (by decide) (fun b hb => own_ne h.list h.log (by decide) hb)), ownsRow_congr h.chg (hrow h.chg (by decide) (by decide) h.ne), k.at_.blk, k.at_.log, fun b hb e => ?_⟩
  · rcases hf with hf | hf | hf
    · exact n1 hf.symm
    · exact n4 hf
    · exact n5 hf
  · rcases k.log b e with e' | e'
    · exact h.ne b hb e'
    · have := (h.chg.lt b hb).2; omega
theorem RMem.disk_stp {lgv' : Value} {D : Dsk} (h : RMem w r q lv cv bv lgv S L) (hf : ∀ b, rfp r q lv cv bv lgv b → G b) (k : QStp q bv lgv lgv' w w' D) : RStp w w' r q G { S with disk := D } L := by
  refine ⟨⟨lv, cv, bv, lgv', h.disk k, fun b hb => ?_⟩, k.upd.mono fun b _ hb => ?_⟩
  · rcases hb with hb | hb | hb | hb | hb | hb
    · exact .inl (hf b (.inl hb))
    · exact .inl (hf b (.inr (.inl hb)))
    · exact .inl (hf b (.inr (.inr (.inl hb))))
    · exact .inl (hf b (.inr (.inr (.inr (.inl hb)))))
    · exact .inl (hf b (.inr (.inr (.inr (.inr (.inl hb))))))
    · rcases k.log b hb with h | h
      · exact .inl (hf b (.inr (.inr (.inr (.inr (.inr h))))))
      · exact .inr h
  · rcases hb with hb | hb | hb
    · exact hf b (.inr (.inl hb))
    · exact hf b (.inr (.inr (.inr (.inr (.inl hb)))))
    · exact hf b (.inr (.inr (.inr (.inr (.inr hb)))))
theorem heldCells_set : ∀ (l : List (Int × Pg)) (j : Nat) (p : Int) (hj : j < l.length), (heldCells l).set (j * 3 + 1) (.int .i64 p) = heldCells (l.set j (l[j].1, { l[j].2 with pins := p }))
  | a :: l, 0, p, _ => by simp [heldCells]
  | a :: l, j + 1, p, hj => by
    have e : heldCells (a :: l) = .int .i64 a.1 :: .int .i64 a.2.pins :: .string a.2.data :: heldCells l := by simp [heldCells]
    rw [e, show (j + 1) * 3 + 1 = (j * 3 + 1) + 1 + 1 + 1 by omega, List.set_cons_succ, List.set_cons_succ, List.set_cons_succ, heldCells_set l j p (by simpa using hj)]
    simp [heldCells]
/-- a held page's pins -/
theorem RMem.pins (h : RMem w r q lv cv bv lgv S L) {j : Nat} (hj : j < L.length) (p : Int) : ∃ g cap, lv = .slice (some ⟨g, 0, none⟩) L.length cap ∧ w.cell? ⟨g, j * 3 + 1, none⟩ = some (.int .i64 L[j].2.pins) ∧ w.frozen? ⟨g, j * 3 + 1, none⟩ = false ∧
    RMem (w.setCell ⟨g, j * 3 + 1, none⟩ (.int .i64 p)) r q lv cv bv lgv S (L.set j (L[j].1, { L[j].2 with pins := p })) := by
  obtain ⟨g, cap, rfl, -, h1, -⟩ := h.listAt hj
  refine ⟨g, cap, rfl, h1, ?_, ?_⟩
  · rcases h.list.2 with ⟨he, _⟩ | ⟨g', cap', cur, he, _⟩
    · cases he
    · exact h.list.frozenAt _
  · have hgn : (Value.slice (some ⟨g, 0, none⟩) L.length cap).ownBlock = some g := by simp [Value.ownBlock]
    obtain ⟨n1, n2, n3, n4, n5⟩ := h.rne
    have hs := (h.list.stored (j * 3 + 1) (.int .i64 p)).1
    rw [heldCells_set L j p hj] at hs
    have hgr : g ≠ r := fun e => n2 (by rw [hgn, e])
    have hgq : g ≠ q := fun e => by
      obtain ⟨cs, hcs⟩ := ownsRow_type h.list hgn
      rw [e, h.q] at hcs; simp at hcs
    refine ⟨?_, ?_, by rw [List.length_set]; exact hs, ownsRow_setCell_other h.chg (fun e => own_ne h.chg h.list (by decide) e hgn) _, ownsRow_setCell_other h.blk (fun e => own_ne h.blk h.list (by decide) e hgn) _, ownsRow_setCell_other h.log (fun e => own_ne h.log h.list (by decide) e hgn) _, h.ne⟩
    · rw [Below.heap_setCell _ _ _ _ (by exact fun e => hgr e.symm)]; exact h.r
    · rw [Below.heap_setCell _ _ _ _ (by exact fun e => hgq e.symm)]; exact h.q
end
end Go.Proofs.YtdoankamaobkoaaGreat
