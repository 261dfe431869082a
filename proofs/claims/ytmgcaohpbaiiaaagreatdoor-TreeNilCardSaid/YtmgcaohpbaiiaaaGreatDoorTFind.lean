/- leaf.Find, tree.child. -/
import Derived.Test.YtmgcaohpbaiiaaaGreatDoorTSl
import Derived.Shelf.SlSorted.Search
set_option linter.unusedSimpArgs false
set_option linter.unusedVariables false
namespace Go.Proofs.YtmgcaohpbaiiaaaGreatDoor
open Go.RowKit Go.Maps Go.Shelf Go.Sort Go.Lib

/-- the place of a key -/
def lIx (l : List Ent) (key : ByteArray) : Nat := l.countP fun q => ltB q.1 key
def lHas (l : List Ent) (key : ByteArray) : Bool := match l[lIx l key]? with
  | some q => decide (q.1 = key)
  | none => false
theorem ltB_eq (a b : ByteArray) : ltB a b = decide (a.data.toList < b.data.toList) := by
  unfold ltB
  rw [bytesLess_eq, ByteArray.toList_eq, ByteArray.toList_eq]
theorem ltB_trans {a b c : ByteArray} (h : ltB a b = true) (k : ltB b c = true) : ltB a c = true := by
  rw [ltB_eq, decide_eq_true_eq] at *
  exact List.lt_trans h k
theorem ltB_irrefl (a : ByteArray) : ltB a a = false := by
  rw [ltB_eq, decide_eq_false_iff_not]
  exact List.lt_irrefl _
/-- the keys below a key stand ahead of the others -/
theorem asc_mono {l : List Ent} (h : ascB l = true) (key : ByteArray) : ∀ a b (ha : a ≤ b) (hb : b < l.length), ltB (l[a]'(by omega)).1 key = false → ltB l[b].1 key = false := by
  intro a b ha
  induction b with
  | zero => intro hb h0; obtain rfl : a = 0 := by omega
            exact h0
  | succ b ih =>
    intro hb h0
    by_cases hab : a = b + 1
    · subst hab; exact h0
    · have h1 := ih (by omega) (by omega) h0
      have h2 := ascB_get h b hb
      cases hx : ltB l[b + 1].1 key with
      | false => rfl
      | true => rw [ltB_trans h2 hx] at h1; cases h1
theorem count_take {l : List Ent} {f : Ent → Bool} : (List.range l.length).countP (fun i => f (l.getD i (⟨#[]⟩, ⟨#[]⟩))) = l.countP f := by
  have h : l = (List.range l.length).map fun i => l.getD i (⟨#[]⟩, ⟨#[]⟩) := by
    apply List.ext_getElem
    · simp
    · intro i h1 h2
      simp [List.getElem?_eq_getElem h1]
  conv => rhs; rw [h, List.countP_map]
  rfl
theorem lIx_le (l : List Ent) (key : ByteArray) : lIx l key ≤ l.length := List.countP_le_length
set_option maxHeartbeats 1000000 in
theorem find1_any (b1 b2 : Nat) (ao : Option Addr) (n c : Nat) (x key : ByteArray) (i g off : Nat) (W : World) (hi : i < n) (h1 : W.cell? ⟨b1, 0, none⟩ = some (.slice ao n c)) (h2 : W.cell? ⟨b2, 0, none⟩ = some (.string key)) (ha : ao = some ⟨g, off, none⟩)
    (hx : W.cell? ⟨g, off + i * 2, none⟩ = some (.string x)) :
    Calls Tryz.prog 76 #[.int .i64 i, .pointer (some ⟨b1, 0, none⟩), .pointer (some ⟨b2, 0, none⟩)] W fun e W' => e = .returned (.bool (!ltB x key)) ∧ ∃ q, W' = W.drewN q := by
  subst ha
  have k1 : ∀ k, (W.drewN k).cell? ⟨b1, 0, none⟩ = some (.slice (some ⟨g, off, none⟩) n c) := fun _ => h1
  have k2 : ∀ k, (W.drewN k).cell? ⟨b2, 0, none⟩ = some (.string key) := fun _ => h2
  have k3 : ∀ k, (W.drewN k).cell? ⟨g, off + i * 2, none⟩ = some (.string x) := fun _ => hx
  clear h1 h2 hx
  unfold ltB
  go_enter Tryz.func76, Tryz.ntmps76
  go_wp2
  go_quiet (fail)
  go_wp2
  go_ret
  exact ⟨rfl, _, rfl⟩
set_option maxHeartbeats 2000000 in
set_option maxRecDepth 100000 in
theorem find_any (w : World) (ao : Option Addr) (c : Nat) (l : List Ent) (key : ByteArray) (hl : ERow w ao l) (hs : ascB l = true) (hn : l.length ≤ 1000000) :
    Calls Tryz.prog 40 #[.slice ao l.length c, .string key] w fun e w' => e = .returned (.tuple #[.int .i64 (lIx l key : Nat), .bool (lHas l key)]) ∧ Below w.heap.size w w' := by
  obtain ⟨W0, hW0⟩ : ∃ W0, W0 = (w.alloc (.cells #[.slice ao l.length c] 31)).alloc (.cells #[.string key] 9) := ⟨_, rfl⟩
  have hsize : W0.heap.size = w.heap.size + 1 + 1 := by rw [hW0]; simp
  have hB0 : Below w.heap.size w W0 := by rw [hW0]; exact ((Below.refl _ w).alloc (Nat.le_refl _) _).alloc (by simp) _
  have ca : W0.cell? ⟨w.heap.size, 0, none⟩ = some (.slice ao l.length c) := by rw [hW0]; exact cell_alloc_sl _ (cell_new_sl w _ _)
  have cx : W0.cell? ⟨w.heap.size + 1, 0, none⟩ = some (Value.string key) := by rw [hW0]; have := cell_new_sl (w.alloc (.cells #[.slice ao l.length c] 31)) (Value.string key) 9; rwa [World.size_alloc] at this
  have HR := Lib.hid (hl.made hB0)
  have eg : ∀ args w, (callFunc 76 args).run Tryz.prog w = .ok (.enter 76 args) w := enters_of Tryz.func76 (by kernel_rfl) rfl
  have hS := Any.sort_Search Tryz.search 76 #[.pointer (some ⟨w.heap.size, 0, none⟩), .pointer (some ⟨w.heap.size + 1, 0, none⟩)] l.length (fun i => !ltB (l.getD i (⟨#[]⟩, ⟨#[]⟩)).1 key) W0 eg (by omega)
    (fun m os i hi => by
      obtain ⟨g, off, e, c0, -⟩ := HR.out.at hi
      have hgl := World.block_lt_of_cell? W0 _ c0
      have hx := cell_grown hgl c0 m os
      refine (find1_any w.heap.size (w.heap.size + 1) ao l.length c l[i].1 key i g off _ hi (cell_grown (by simp [hsize]; omega) ca m os) (cell_grown (by simp [hsize]) cx m os) e hx).mono ?_
      rintro e2 w2 ⟨rfl, q, rfl⟩
      refine ⟨?_, q, #[], by rw [grow_empty]⟩
      rw [List.getD_eq_getElem?_getD, List.getElem?_eq_getElem hi]; rfl)
    (fun a b ha hb hp => by
      have hal : a < l.length := by omega
      rw [List.getD_eq_getElem?_getD, List.getElem?_eq_getElem hb]
      rw [List.getD_eq_getElem?_getD, List.getElem?_eq_getElem hal] at hp
      simp only [Option.getD_some, Bool.not_eq_true'] at hp ⊢
      exact asc_mono hs key a b ha hb hp)
  simp only [Bool.not_not] at hS
  rw [count_take (f := fun q => ltB q.1 key)] at hS
  change Calls _ _ _ _ fun e w' => e = .returned (.int .i64 ((lIx l key : Nat) : Int)) ∧ _ at hS
  have hix := lIx_le l key
  have HBF : Hid (∀ W q, RowKit.Below W0.heap.size W0 W → RowKit.Below w.heap.size w (W.drewN q)) := fun W q h => hB0.trans ((h.trans ((drewN_below W q).mono h.size)).mono hB0.size)
  have HG : Hid (∀ q os, RowKit.Below W0.heap.size W0 (Go.Sort.grow (W0.drewN q) os)) := fun q os => below_grown_sl W0.heap.size W0 q os (Nat.le_refl _)
  have HS := Lib.hid hS
  have HW0 := Lib.hid hW0
  have HC1 : Hid (∀ W, RowKit.Below W0.heap.size W0 W → ∀ q, (W.drewN q).cell? ⟨w.heap.size, 0, none⟩ = some (.slice ao l.length c)) := fun W hB q => (hB.cell (p := ⟨w.heap.size, 0, none⟩) (World.block_lt_of_cell? W0 _ ca)).trans ca
  have HC2 : Hid (∀ W, RowKit.Below W0.heap.size W0 W → ∀ q, (W.drewN q).cell? ⟨w.heap.size + 1, 0, none⟩ = some (.string key)) := fun W hB q => (hB.cell (p := ⟨w.heap.size + 1, 0, none⟩) (World.block_lt_of_cell? W0 _ cx)).trans cx
  by_cases hi : lIx l key < l.length
  · have hx : ((l[lIx l key]'hi).1.toList == key.toList) = lHas l key := by
      unfold lHas
      rw [List.getElem?_eq_getElem hi]
      by_cases hk : (l[lIx l key]'hi).1 = key
      · simp [hk]
      · rw [bytes_neq hk]; simp [hk]
    have HC3 : Hid (∀ W, RowKit.Below W0.heap.size W0 W → ∃ g off, ao = some ⟨g, off, none⟩ ∧ ∀ q, (W.drewN q).cell? ⟨g, off + lIx l key * 2, none⟩ = some (.string (l[lIx l key]'hi).1)) := fun W hB => by
      obtain ⟨g, off, e, c0, -⟩ := (HR.out.made hB).at hi
      exact ⟨g, off, e, fun _ => c0⟩
    clear hB0 hS hW0 ca cx HR hl hs eg
    generalize (l[lIx l key]'hi).1 = x at *
    generalize lHas l key = b at *
    generalize lIx l key = ix at *
    generalize l.length = n at *
    have e1 : ((ix : Int) < (n : Int)) := by omega
    go_enter Tryz.func40, Tryz.ntmps40
    go_wp2_with fail
    rw [HW0.out.symm]
    refine HS.out.mono ?_
    rintro e w2 ⟨rfl, q, os, rfl⟩
    have HB2 := HG.out q os
    have HB3 := Lib.hid (HBF.out _ · HB2)
    have k1 := HC1.out _ HB2
    have k2 := HC2.out _ HB2
    obtain ⟨g, off, rfl, k3⟩ := HC3.out _ HB2
    clear HB2 HC1 HC2 HC3 HS HW0 HBF HG
    generalize Go.Sort.grow (W0.drewN q) os = w2 at *
    go_wp2
    go_quiet (fail)
    go_wp2
    go_ret2
    exact ⟨rfl, HB3.out _⟩
  · have hx : lHas l key = false := by unfold lHas; rw [List.getElem?_eq_none (by omega)]
    rw [hx]
    clear hB0 hS hW0 ca cx HR hl hs eg hx
    generalize lIx l key = ix at *
    generalize l.length = n at *
    have e1 : ¬ ((ix : Int) < (n : Int)) := by omega
    go_enter Tryz.func40, Tryz.ntmps40
    go_wp2_with fail
    rw [HW0.out.symm]
    refine HS.out.mono ?_
    rintro e w2 ⟨rfl, q, os, rfl⟩
    have HB2 := HG.out q os
    have HB3 := Lib.hid (HBF.out _ · HB2)
    have k1 := HC1.out _ HB2
    have k2 := HC2.out _ HB2
    clear HB2 HC1 HC2 HS HW0 HBF HG
    generalize Go.Sort.grow (W0.drewN q) os = w2 at *
    go_wp2
    go_quiet (fail)
    go_wp2
    go_ret2
    exact ⟨rfl, HB3.out _⟩
end Go.Proofs.YtmgcaohpbaiiaaaGreatDoor
