/- The reference's pager in memory; what reads it. -/
import Derived.Test.YtdoankamaobkoaaGreatQOrd
import Derived.Maps.AppendAt
set_option linter.unusedSimpArgs false
set_option linter.unusedVariables false
namespace Go.Proofs.YtdoankamaobkoaaGreat
open Go.RowKit Go.Maps Go.Shelf

theorem info_held : (Tryz.prog.info? 95).map (fun i => (i.zero, i.size, i.bytes)) = some (some (.agg #[.int .i64 0, .int .i64 0, .string ⟨#[]⟩]), 3, 32) := by kernel_rfl
def heldCells (L : List (Int × Pg)) : List Value := L.flatMap fun q => [.int .i64 q.1, .int .i64 q.2.pins, .string q.2.data]
theorem heldCells_len (L : List (Int × Pg)) : (heldCells L).length = L.length * 3 := by
  induction L with
  | nil => rfl
  | cons q L ih => unfold heldCells at ih ⊢; rw [List.flatMap_cons, List.length_append, ih]; simp; omega
theorem heldCells_get : ∀ (l : List (Int × Pg)) (i : Nat) (h : i < l.length), (heldCells l)[i * 3]? = some (.int .i64 l[i].1) ∧ (heldCells l)[i * 3 + 1]? = some (.int .i64 l[i].2.pins) ∧ (heldCells l)[i * 3 + 2]? = some (.string l[i].2.data)
  | p :: r, 0, _ => by simp [heldCells]
  | p :: r, i + 1, h => by
    have ih := heldCells_get r i (by simpa using h)
    have e : heldCells (p :: r) = .int .i64 p.1 :: .int .i64 p.2.pins :: .string p.2.data :: heldCells r := by simp [heldCells]
    rw [e, show (i + 1) * 3 = i * 3 + 1 + 1 + 1 by omega]
    simpa [Nat.add_assoc] using ih
theorem heldCells_append (l m : List (Int × Pg)) : heldCells (l ++ m) = heldCells l ++ heldCells m := by simp [heldCells]
theorem pageCells_append (l m : Pgs) : pageCells (l ++ m) = pageCells l ++ pageCells m := by simp [pageCells]
theorem pageCells_len (l : Pgs) : (pageCells l).length = l.length * 2 := by
  induction l with
  | nil => rfl
  | cons q L ih => unfold pageCells at ih ⊢; rw [List.flatMap_cons, List.length_append, ih]; simp; omega
theorem heldCells_one (L : List (Int × Pg)) : ∀ u ∈ heldCells L, u.oneCell' = true := by
  intro u hu
  obtain ⟨q, _, hq⟩ := List.mem_flatMap.1 hu
  simp at hq
  rcases hq with rfl | rfl | rfl <;> rfl
theorem pageCells_one (l : Pgs) : ∀ u ∈ pageCells l, u.oneCell' = true := by
  intro u hu
  obtain ⟨q, _, hq⟩ := List.mem_flatMap.1 hu
  simp at hq
  rcases hq with rfl | rfl <;> rfl
theorem ownsRow_congr {w w' : World} {base : Nat} {e : TypeId} {size n : Nat} {v : Value} {xs : List Value} (h : w.ownsRow base e size v n xs) (hk : ∀ b, v.ownBlock = some b → w'.heap[b]? = w.heap[b]?) : w'.ownsRow base e size v n xs := by
  refine ⟨h.1, ?_⟩
  rcases h.2 with hn | ⟨g, cap, cur, rfl, hb, hg, rest⟩
  · exact .inl hn
  · exact .inr ⟨g, cap, cur, rfl, hb, (hk g (by simp [Value.ownBlock])).trans hg, rest⟩
theorem ownsRow_type {w : World} {base : Nat} {e : TypeId} {size n : Nat} {v : Value} {xs : List Value} (h : w.ownsRow base e size v n xs) {b : Nat} (hb : v.ownBlock = some b) : ∃ cs, w.heap[b]? = some (.cells cs e (0, 0)) := by
  rcases h.2 with ⟨rfl, _⟩ | ⟨g, cap, cur, rfl, _, hg, _⟩
  · simp [Value.ownBlock] at hb
  · simp [Value.ownBlock] at hb; subst hb; exact ⟨_, hg⟩
theorem ownsRow_base {w : World} {base base' : Nat} {e : TypeId} {size n : Nat} {v : Value} {xs : List Value} (h : w.ownsRow base e size v n xs) (hb : base' ≤ base) : w.ownsRow base' e size v n xs := by
  refine ⟨h.1, ?_⟩
  rcases h.2 with hn | ⟨g, cap, cur, rfl, hbb, hg, rest⟩
  · exact .inl hn
  · exact .inr ⟨g, cap, cur, rfl, by omega, hg, rest⟩
/-- an append, whatever is appended -/
theorem many_append (te sl : TypeId) (z : Value) (sz by_ : Nat) (hinfo : (Tryz.prog.info? te).map (fun i => (i.zero, i.size, i.bytes)) = some (some z, sz, by_)) (hu : Tryz.prog.underlying sl = some (.slice te)) (hz : z.cells.size = sz) (hsz : 0 < sz) (hby : by_ ≤ 32)
    (w : World) (base : Nat) (v : Value) (n : Nat) (xs : List Value) (hown : w.ownsRow base te sz v n xs) (src : Addr) (m c : Nat) (ys : List Value) (hl : ys.length = m * sz) (hc : ∀ j u, ys[j]? = some u → w.cell? (src.add j) = some u) (h1 : ∀ u ∈ ys, u.oneCell' = true) (hlen : n + m ≤ 1000000000000) (hb : base ≤ w.heap.size) :
    ∃ ao co w3, (Builtin.append_ #[sl, sl] sl #[v, .slice (some src) m c]).run Tryz.prog w = .ok (.slice ao (n + m) co) w3 ∧ w3.ownsRow base te sz (.slice ao (n + m) co) (n + m) (xs ++ ys) ∧ w.grownBy w3 v.ownBlock ∧
      ((Value.slice ao (n + m) co).ownBlock = v.ownBlock ∨ (Value.slice ao (n + m) co).ownBlock = some w.heap.size) := by
  obtain ⟨i0, hi, hz0, hz1, hz2⟩ := info_parts hinfo
  obtain ⟨v3, w3, hr, hown3, hgr, _, hat⟩ := run_append_own_at (P := Tryz.prog) w base sl sl te i0 z sz by_ hu hi hz0 hz1 hz2 hz hsz v n xs hown src m c ys hl hc h1 (by unfold maxLen; omega)
    (by
      have : (n + m) * by_ ≤ (n + m) * 32 := Nat.mul_le_mul_left _ hby
      omega) hb
  obtain ⟨ao, co, rfl⟩ := ownsRow_slice hown3
  exact ⟨ao, co, w3, hr, hown3, hgr, hat⟩
/-- appended to nothing: what is there is new -/
theorem grown_nil_below {w w3 : World} {row : Option Nat} (hg : w.grownBy w3 row) (hr : row = none) : Below w.heap.size w w3 := by
  subst hr
  exact ⟨hg.os, hg.tape, hg.output, hg.size, fun k hk => hg.block k hk (by simp)⟩

theorem qdrew_below (w : World) (k : Nat) : Below w.heap.size w (w.drewN k) := ⟨rfl, rfl, rfl, Nat.le_refl _, fun _ _ => rfl⟩

/-! ### the reference's pager -/
structure RMem (w : World) (r q : Nat) (lv cv bv lgv : Value) (S : Pgr) (L : List (Int × Pg)) : Prop where
  r : w.heap[r]? = some (.cells #[.pointer (some ⟨q, 0, none⟩), .int .i64 S.room, lv, cv, .int .i64 S.reads] 55 (0, 0))
  q : w.heap[q]? = some (.cells #[bv, lgv, .bool S.disk.told, .int .i64 S.disk.left, .bool S.disk.down] 59 (0, 0))
  list : w.ownsRow 0 95 3 lv L.length (heldCells L)
  chg : w.ownsRow 0 78 2 cv S.changed.length (pageCells S.changed)
  blk : w.ownsRow 0 9 1 bv S.disk.blocks.length (S.disk.blocks.map Value.string)
  log : w.ownsRow 0 78 2 lgv S.disk.log.length (pageCells S.disk.log)
  ne : ∀ b, cv.ownBlock = some b → lgv.ownBlock ≠ some b
def rfp (r q : Nat) (lv cv bv lgv : Value) (b : Nat) : Prop := b = r ∨ b = q ∨ lv.ownBlock = some b ∨ cv.ownBlock = some b ∨ bv.ownBlock = some b ∨ lgv.ownBlock = some b
def RAt (w : World) (r q : Nat) (G : Nat → Prop) (S : Pgr) (L : List (Int × Pg)) : Prop := ∃ lv cv bv lgv, RMem w r q lv cv bv lgv S L ∧ ∀ b, rfp r q lv cv bv lgv b → G b
structure RStp (w w' : World) (r q : Nat) (G : Nat → Prop) (S' : Pgr) (L' : List (Int × Pg)) : Prop where
  at_ : RAt w' r q (ext G w w') S' L'
  upd : Upd G w w'
section
variable {w w' : World} {r q : Nat} {lv cv bv lgv : Value} {S : Pgr} {L : List (Int × Pg)} {G : Nat → Prop}
theorem RMem.fp_lt (h : RMem w r q lv cv bv lgv S L) {b : Nat} (hb : rfp r q lv cv bv lgv b) : b < w.heap.size := by
  rcases hb with rfl | rfl | hb | hb | hb | hb
  · exact lt_of h.r
  · exact lt_of h.q
  · exact (h.list.lt b hb).2
  · exact (h.chg.lt b hb).2
  · exact (h.blk.lt b hb).2
  · exact (h.log.lt b hb).2
theorem RMem.keep (h : RMem w r q lv cv bv lgv S L) (hk : ∀ b, rfp r q lv cv bv lgv b → w'.heap[b]? = w.heap[b]?) : RMem w' r q lv cv bv lgv S L :=
  ⟨(hk _ (.inl rfl)).trans h.r, (hk _ (.inr (.inl rfl))).trans h.q, ownsRow_congr h.list fun b hb => hk b (.inr (.inr (.inl hb))), ownsRow_congr h.chg fun b hb => hk b (.inr (.inr (.inr (.inl hb)))),
    ownsRow_congr h.blk fun b hb => hk b (.inr (.inr (.inr (.inr (.inl hb))))), ownsRow_congr h.log fun b hb => hk b (.inr (.inr (.inr (.inr (.inr hb))))), h.ne⟩
theorem RAt.made (h : RAt w r q G S L) (hB : Below w.heap.size w w') : RAt w' r q G S L := by
  obtain ⟨lv, cv, bv, lgv, hM, hf⟩ := h
  exact ⟨lv, cv, bv, lgv, hM.keep fun b hb => hB.block b (hM.fp_lt hb), hf⟩
theorem RAt.upd {F : Nat → Prop} (h : RAt w r q G S L) (hu : Upd F w w') (hd : ∀ b, G b → ¬ F b) : RAt w' r q G S L := by
  obtain ⟨lv, cv, bv, lgv, hM, hf⟩ := h
  exact ⟨lv, cv, bv, lgv, hM.keep fun b hb => hu.block b (hM.fp_lt hb) (hd b (hf b hb)), hf⟩
theorem RAt.mono {G' : Nat → Prop} (h : RAt w r q G S L) (hg : ∀ b, G b → G' b) : RAt w r q G' S L := by
  obtain ⟨lv, cv, bv, lgv, hM, hf⟩ := h
  exact ⟨lv, cv, bv, lgv, hM, fun b hb => hg b (hf b hb)⟩
theorem RStp.refl (h : RAt w r q G S L) : RStp w w r q G S L := ⟨h.mono fun _ hb => .inl hb, Upd.refl _ _⟩
theorem RStp.trans {a b c : World} {S' : Pgr} {L' : List (Int × Pg)} (h : RStp a b r q G S L) (k : RStp b c r q (ext G a b) S' L') : RStp a c r q G S' L' := by
  have h1 := h.upd.size
  have h2 := k.upd.size
  refine ⟨k.at_.mono fun x hx => ?_, h.upd.then k.upd fun x hx hf => ?_⟩
  · rcases hx with (hx | hx) | hx
    · exact .inl hx
    · exact .inr ⟨hx.1, by omega⟩
    · exact .inr ⟨by omega, hx.2⟩
  · rcases hf with hf | hf
    · exact hf
    · omega
theorem RStp.made {a b c : World} (h : RStp a b r q G S L) (hB : Below b.heap.size b c) : RStp a c r q G S L := by
  have h1 := h.upd.size
  have h2 := hB.size
  refine ⟨(h.at_.made hB).mono fun x hx => hx.imp id (fun hx => ⟨hx.1, by omega⟩), h.upd.trans (Upd.below hB fun x hx hle => by omega)⟩
/-- the r-th cells of the list -/
theorem RMem.listAt (h : RMem w r q lv cv bv lgv S L) {i : Nat} (hi : i < L.length) : ∃ g cap, lv = .slice (some ⟨g, 0, none⟩) L.length cap ∧ w.cell? ⟨g, i * 3, none⟩ = some (.int .i64 L[i].1) ∧ w.cell? ⟨g, i * 3 + 1, none⟩ = some (.int .i64 L[i].2.pins) ∧ w.cell? ⟨g, i * 3 + 2, none⟩ = some (.string L[i].2.data) := by
  obtain ⟨h1, h2, h3⟩ := heldCells_get L i hi
  rcases h.list.2 with ⟨_, h0⟩ | ⟨g, cap, cur, rfl, _⟩
  · omega
  · refine ⟨g, cap, rfl, ?_, ?_, ?_⟩
    · rw [h.list.cellAt _ (by omega)]; exact h1
    · rw [h.list.cellAt _ (by omega)]; exact h2
    · rw [h.list.cellAt _ (by omega)]; exact h3
theorem RMem.chgAt (h : RMem w r q lv cv bv lgv S L) {i : Nat} (hi : i < S.changed.length) : ∃ g cap, cv = .slice (some ⟨g, 0, none⟩) S.changed.length cap ∧ w.cell? ⟨g, i * 2, none⟩ = some (.int .i64 S.changed[i].1) ∧ w.cell? ⟨g, i * 2 + 1, none⟩ = some (.string S.changed[i].2) := by
  obtain ⟨h1, h2⟩ := pageCells_get S.changed i hi
  rcases h.chg.2 with ⟨_, h0⟩ | ⟨g, cap, cur, rfl, _⟩
  · omega
  · refine ⟨g, cap, rfl, ?_, ?_⟩
    · rw [h.chg.cellAt _ (by omega)]; exact h1
    · rw [h.chg.cellAt _ (by omega)]; exact h2
end
def ixI : Option Nat → Int
  | none => -1
  | some j => j
section
variable {w : World} {r q : Nat} {S : Pgr} {L : List (Int × Pg)} {G : Nat → Prop}
set_option maxHeartbeats 1000000 in
theorem at_any (h : RAt w r q G S L) (i : Int) (hl : L.length ≤ 4096) :
    Calls Tryz.prog 72 #[.pointer (some ⟨r, 0, none⟩), .int .i64 i] w fun e w' => e = .returned (.int .i64 (ixI (atIx L i))) ∧ w = w' := by
  obtain ⟨lv, cv, bv, lgv, hM, _⟩ := h
  have c2 := cell_of hM.r 2
  simp at c2
  obtain ⟨ao, co, rfl⟩ := ownsRow_slice hM.list
  have HC : Hid (∀ k (hk : k < L.length), ∃ g, ao = some ⟨g, 0, none⟩ ∧ w.cell? ⟨g, k * 3, none⟩ = some (.int .i64 (L[k]'hk).1)) := fun k hk => by
    obtain ⟨g, cap, he, h1, _⟩ := hM.listAt hk
    simp at he
    exact ⟨g, he.1, h1⟩
  cases hx : atIx L i with
  | none =>
    have HN : Hid (∀ k (hk : k < L.length), (L[k]'hk).1 ≠ i) := fun k hk => by
      have := List.findIdx?_eq_none_iff.1 hx _ (List.getElem_mem hk)
      simpa using this
    clear hM hx
    obtain ⟨m, HM⟩ : ∃ m, Hid (L.length = m) := ⟨_, Lib.hid rfl⟩
    rw [HM.out] at c2 hl
    go_enter Tryz.func72, Tryz.ntmps72
    go_wp2
    go_loopw [11] (fun v wr => ∃ k : Nat, v = .int .i64 k ∧ k ≤ m ∧ wr = w) (fun v _ => m - (intOf v).toNat)
    case atStart => exact ⟨0, rfl, by omega, rfl⟩
    case round =>
      obtain ⟨k, rfl, hk, rfl⟩ := hrel
      by_cases hlt : k < m
      · have hlt' : k < L.length := by rw [HM.out]; exact hlt
        obtain ⟨g, rfl, hc⟩ := HC.out k hlt'
        have hb : (L[k].1 == i) = false := by have := HN.out k hlt'; simpa using this
        generalize L[k].1 = x at *
        go_wp2
        go_roundw
        case rel => exact ⟨k + 1, by go_num, by omega, trivial⟩
        case measure => simp [intOf]; omega
      · obtain rfl : k = m := by omega
        go_wp2
        go_ret
        exact ⟨rfl, rfl⟩
  | some j =>
    obtain ⟨hj, hp, hlow⟩ := List.findIdx?_eq_some_iff_getElem.1 hx
    have HN : Hid (∀ k (hk : k < L.length), k < j → (L[k]'hk).1 ≠ i) := fun k hk hkj => by
      have := hlow k hkj
      simpa using this
    have HE : Hid (L[j].1 = i) := by show _ = _; simpa using hp
    clear hM hx hp hlow
    obtain ⟨m, HM⟩ : ∃ m, Hid (L.length = m) := ⟨_, Lib.hid rfl⟩
    have hjm : j < m := by rw [← HM.out]; exact hj
    rw [HM.out] at c2 hl
    show Calls _ _ _ _ fun e w' => e = .returned (.int .i64 (j : Int)) ∧ w = w'
    go_enter Tryz.func72, Tryz.ntmps72
    go_wp2
    go_loopw [11] (fun v wr => ∃ k : Nat, v = .int .i64 k ∧ k ≤ j ∧ wr = w) (fun v _ => m - (intOf v).toNat)
    case atStart => exact ⟨0, rfl, by omega, rfl⟩
    case round =>
      obtain ⟨k, rfl, hk, rfl⟩ := hrel
      have hlt : k < m := by omega
      have hlt' : k < L.length := by rw [HM.out]; exact hlt
      obtain ⟨g, rfl, hc⟩ := HC.out k hlt'
      by_cases hkj : k < j
      · have hb : (L[k].1 == i) = false := by have := HN.out k hlt' hkj; simpa using this
        generalize L[k].1 = x at *
        go_wp2
        go_roundw
        case rel => exact ⟨k + 1, by go_num, by omega, trivial⟩
        case measure => simp [intOf]; omega
      · obtain rfl : k = j := by omega
        rw [HE.out] at hc
        go_wp2
        go_ret
        exact ⟨rfl, rfl⟩
set_option maxHeartbeats 1000000 in
theorem free_any (h : RAt w r q G S L) (hl : L.length ≤ 4096) :
    Calls Tryz.prog 77 #[.pointer (some ⟨r, 0, none⟩)] w fun e w' => e = .returned (.int .i64 (ixI (freeIx L))) ∧ w = w' := by
  obtain ⟨lv, cv, bv, lgv, hM, _⟩ := h
  have c2 := cell_of hM.r 2
  simp at c2
  obtain ⟨ao, co, rfl⟩ := ownsRow_slice hM.list
  have HC : Hid (∀ k (hk : k < L.length), ∃ g, ao = some ⟨g, 0, none⟩ ∧ w.cell? ⟨g, k * 3 + 1, none⟩ = some (.int .i64 (L[k]'hk).2.pins)) := fun k hk => by
    obtain ⟨g, cap, he, _, h1, _⟩ := hM.listAt hk
    simp at he
    exact ⟨g, he.1, h1⟩
  cases hx : freeIx L with
  | none =>
    have HN : Hid (∀ k (hk : k < L.length), (L[k]'hk).2.pins ≠ 0) := fun k hk => by
      have := List.findIdx?_eq_none_iff.1 hx _ (List.getElem_mem hk)
      simpa using this
    clear hM hx
    obtain ⟨m, HM⟩ : ∃ m, Hid (L.length = m) := ⟨_, Lib.hid rfl⟩
    rw [HM.out] at c2 hl
    go_enter Tryz.func77, Tryz.ntmps77
    go_wp2
    go_loopw [9] (fun v wr => ∃ k : Nat, v = .int .i64 k ∧ k ≤ m ∧ wr = w) (fun v _ => m - (intOf v).toNat)
    case atStart => exact ⟨0, rfl, by omega, rfl⟩
    case round =>
      obtain ⟨k, rfl, hk, rfl⟩ := hrel
      by_cases hlt : k < m
      · have hlt' : k < L.length := by rw [HM.out]; exact hlt
        obtain ⟨g, rfl, hc⟩ := HC.out k hlt'
        have hb : (L[k].2.pins == 0) = false := by have := HN.out k hlt'; simpa using this
        generalize L[k].2.pins = x at *
        go_wp2
        go_roundw
        case rel => exact ⟨k + 1, by go_num, by omega, trivial⟩
        case measure => simp [intOf]; omega
      · obtain rfl : k = m := by omega
        go_wp2
        go_ret
        exact ⟨rfl, rfl⟩
  | some j =>
    obtain ⟨hj, hp, hlow⟩ := List.findIdx?_eq_some_iff_getElem.1 hx
    have HN : Hid (∀ k (hk : k < L.length), k < j → (L[k]'hk).2.pins ≠ 0) := fun k hk hkj => by
      have := hlow k hkj
      simpa using this
    have HE : Hid (L[j].2.pins = 0) := by show _ = _; simpa using hp
    clear hM hx hp hlow
    obtain ⟨m, HM⟩ : ∃ m, Hid (L.length = m) := ⟨_, Lib.hid rfl⟩
    have hjm : j < m := by rw [← HM.out]; exact hj
    rw [HM.out] at c2 hl
    show Calls _ _ _ _ fun e w' => e = .returned (.int .i64 (j : Int)) ∧ w = w'
    go_enter Tryz.func77, Tryz.ntmps77
    go_wp2
    go_loopw [9] (fun v wr => ∃ k : Nat, v = .int .i64 k ∧ k ≤ j ∧ wr = w) (fun v _ => m - (intOf v).toNat)
    case atStart => exact ⟨0, rfl, by omega, rfl⟩
    case round =>
      obtain ⟨k, rfl, hk, rfl⟩ := hrel
      have hlt : k < m := by omega
      have hlt' : k < L.length := by rw [HM.out]; exact hlt
      obtain ⟨g, rfl, hc⟩ := HC.out k hlt'
      by_cases hkj : k < j
      · have hb : (L[k].2.pins == 0) = false := by have := HN.out k hlt' hkj; simpa using this
        generalize L[k].2.pins = x at *
        go_wp2
        go_roundw
        case rel => exact ⟨k + 1, by go_num, by omega, trivial⟩
        case measure => simp [intOf]; omega
      · obtain rfl : k = j := by omega
        rw [HE.out] at hc
        go_wp2
        go_ret
        exact ⟨rfl, rfl⟩
def chgIx (l : Pgs) (i : Int) : Option Nat := l.findIdx? fun q => decide (q.1 = i)
theorem chgIx_none {l : Pgs} {i : Int} (hn : chgIx l i = none) : get i l = none := by
  cases hg : get i l with
  | none => rfl
  | some x =>
    have := List.findIdx?_eq_none_iff.1 hn _ (get_mem hg)
    simp at this
theorem chgIx_some {l : Pgs} {i : Int} (hs : Srt l) {j : Nat} (hn : chgIx l i = some j) : ∃ (hj : j < l.length), get i l = some l[j].2 := by
  obtain ⟨hj, hp, _⟩ := List.findIdx?_eq_some_iff_getElem.1 hn
  have e : l[j].1 = i := by simpa using hp
  have := mem_get hs (show (l[j].1, l[j].2) ∈ l from List.getElem_mem hj)
  exact ⟨hj, by rwa [e] at this⟩
set_option maxHeartbeats 1000000 in
theorem changed_any (h : RAt w r q G S L) (i : Int) (hl : S.changed.length ≤ 4096) :
    Calls Tryz.prog 71 #[.pointer (some ⟨r, 0, none⟩), .int .i64 i] w fun e w' => e = .returned (.int .i64 (ixI (chgIx S.changed i))) ∧ w = w' := by
  obtain ⟨lv, cv, bv, lgv, hM, _⟩ := h
  have c3 := cell_of hM.r 3
  simp at c3
  obtain ⟨ao, co, rfl⟩ := ownsRow_slice hM.chg
  have HC : Hid (∀ k (hk : k < S.changed.length), ∃ g, ao = some ⟨g, 0, none⟩ ∧ w.cell? ⟨g, k * 2, none⟩ = some (.int .i64 (S.changed[k]'hk).1)) := fun k hk => by
    obtain ⟨g, cap, he, h1, _⟩ := hM.chgAt hk
    simp at he
    exact ⟨g, he.1, h1⟩
  generalize S.changed = l at *
  cases hx : chgIx l i with
  | none =>
    have HN : Hid (∀ k (hk : k < l.length), (l[k]'hk).1 ≠ i) := fun k hk => by
      have := List.findIdx?_eq_none_iff.1 hx _ (List.getElem_mem hk)
      simpa using this
    clear hM hx
    obtain ⟨m, HM⟩ : ∃ m, Hid (l.length = m) := ⟨_, Lib.hid rfl⟩
    rw [HM.out] at c3 hl
    go_enter Tryz.func71, Tryz.ntmps71
    go_wp2
    go_loopw [11] (fun v wr => ∃ k : Nat, v = .int .i64 k ∧ k ≤ m ∧ wr = w) (fun v _ => m - (intOf v).toNat)
    case atStart => exact ⟨0, rfl, by omega, rfl⟩
    case round =>
      obtain ⟨k, rfl, hk, rfl⟩ := hrel
      by_cases hlt : k < m
      · have hlt' : k < l.length := by rw [HM.out]; exact hlt
        obtain ⟨g, rfl, hc⟩ := HC.out k hlt'
        have hb : (l[k].1 == i) = false := by have := HN.out k hlt'; simpa using this
        generalize l[k].1 = x at *
        go_wp2
        go_roundw
        case rel => exact ⟨k + 1, by go_num, by omega, trivial⟩
        case measure => simp [intOf]; omega
      · obtain rfl : k = m := by omega
        go_wp2
        go_ret
        exact ⟨rfl, rfl⟩
  | some j =>
    obtain ⟨hj, hp, hlow⟩ := List.findIdx?_eq_some_iff_getElem.1 hx
    have HN : Hid (∀ k (hk : k < l.length), k < j → (l[k]'hk).1 ≠ i) := fun k hk hkj => by
      have := hlow k hkj
      simpa using this
    have HE : Hid (l[j].1 = i) := by show _ = _; simpa using hp
    clear hM hx hp hlow
    obtain ⟨m, HM⟩ : ∃ m, Hid (l.length = m) := ⟨_, Lib.hid rfl⟩
    have hjm : j < m := by rw [← HM.out]; exact hj
    rw [HM.out] at c3 hl
    show Calls _ _ _ _ fun e w' => e = .returned (.int .i64 (j : Int)) ∧ w = w'
    go_enter Tryz.func71, Tryz.ntmps71
    go_wp2
    go_loopw [11] (fun v wr => ∃ k : Nat, v = .int .i64 k ∧ k ≤ j ∧ wr = w) (fun v _ => m - (intOf v).toNat)
    case atStart => exact ⟨0, rfl, by omega, rfl⟩
    case round =>
      obtain ⟨k, rfl, hk, rfl⟩ := hrel
      have hlt : k < m := by omega
      have hlt' : k < l.length := by rw [HM.out]; exact hlt
      obtain ⟨g, rfl, hc⟩ := HC.out k hlt'
      by_cases hkj : k < j
      · have hb : (l[k].1 == i) = false := by have := HN.out k hlt' hkj; simpa using this
        generalize l[k].1 = x at *
        go_wp2
        go_roundw
        case rel => exact ⟨k + 1, by go_num, by omega, trivial⟩
        case measure => simp [intOf]; omega
      · obtain rfl : k = j := by omega
        rw [HE.out] at hc
        go_wp2
        go_ret
        exact ⟨rfl, rfl⟩
end
end Go.Proofs.YtdoankamaobkoaaGreat
