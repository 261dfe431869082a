/- leaf.Find, tree.child · tree.child; leaf.Put, Take · leaf.Pack, piece, Unpack · leaf.piece, Unpack · tree.name, page; leaf.Cut · leaf.Cut. -/
import Derived.Test.YtmgcaohpbaiiaaaGreatDoorU1
import Derived.Shelf.SlSorted.Search
import Derived.Test.YtmgcaohpbaiiaaaGreatDoorU2
import Derived.Deep.RegionLaw
import Derived.Deep.RegionHeld3
import Derived.Laws.BytesArg
namespace Go.Proofs.YtmgcaohpbaiiaaaGreatDoor
/-! TFind -/
section
set_option linter.unusedSimpArgs false
set_option linter.unusedVariables false
open Go.RowKit Go.Maps Go.Shelf Go.Sort Go.Lib

/-- the place of a key -/
def lIx (l : List Ent) (key : ByteArray) : Nat := l.countP fun q => ltB q.1 key
def lHas (l : List Ent) (key : ByteArray) : Bool := match l[lIx l key]? with
  | some q => decide (q.1 = key)
  | none => false
theorem ltB_eq (a b : ByteArray) : ltB a b = decide (a.data.toList < b.data.toList) := by
  unfold ltB
  rw [bytesLess_eq, ByteArray.toList_eq, ByteArray.toList_eq]
theorem ltB_trans {a b c : ByteArray} (h : ltB a b = true) (k : ltB b c = true) : ltB a c = true := by
  rw [ltB_eq, decide_eq_true_eq] at *
  exact List.lt_trans h k
theorem ltB_irrefl (a : ByteArray) : ltB a a = false := by
  rw [ltB_eq, decide_eq_false_iff_not]
  exact List.lt_irrefl _
/-- the keys below a key stand ahead of the others -/
theorem asc_mono {l : List Ent} (h : ascB l = true) (key : ByteArray) : ∀ a b (ha : a ≤ b) (hb : b < l.length), ltB (l[a]'(by omega)).1 key = false → ltB l[b].1 key = false := by
  intro a b ha
  induction b with
  | zero => intro hb h0; obtain rfl : a = 0 := by omega
            exact h0
  | succ b ih =>
    intro hb h0
    by_cases hab : a = b + 1
    · subst hab; exact h0
    · have h1 := ih (by omega) (by omega) h0
      have h2 := ascB_get h b hb
      cases hx : ltB l[b + 1].1 key with
      | false => rfl
      | true => rw [ltB_trans h2 hx] at h1; cases h1
theorem count_take {l : List Ent} {f : Ent → Bool} : (List.range l.length).countP (fun i => f (l.getD i (⟨#[]⟩, ⟨#[]⟩))) = l.countP f := by
  have h : l = (List.range l.length).map fun i => l.getD i (⟨#[]⟩, ⟨#[]⟩) := by
    apply List.ext_getElem
    · simp
    · intro i h1 h2
      simp [List.getElem?_eq_getElem h1]
  conv => rhs; rw [h, List.countP_map]
  rfl
theorem lIx_le (l : List Ent) (key : ByteArray) : lIx l key ≤ l.length := List.countP_le_length
set_option maxHeartbeats 1000000 in
theorem find1_any (b1 b2 : Nat) (ao : Option Addr) (n c : Nat) (x key : ByteArray) (i g off : Nat) (W : World) (hi : i < n) (h1 : W.cell? ⟨b1, 0, none⟩ = some (.slice ao n c)) (h2 : W.cell? ⟨b2, 0, none⟩ = some (.string key)) (ha : ao = some ⟨g, off, none⟩)
    (hx : W.cell? ⟨g, off + i * 2, none⟩ = some (.string x)) :
    Calls Tryz.prog 76 #[.int .i64 i, .pointer (some ⟨b1, 0, none⟩), .pointer (some ⟨b2, 0, none⟩)] W fun e W' => e = .returned (.bool (!ltB x key)) ∧ ∃ q, W' = W.drewN q := by
  subst ha
  have k1 : ∀ k, (W.drewN k).cell? ⟨b1, 0, none⟩ = some (.slice (some ⟨g, off, none⟩) n c) := fun _ => h1
  have k2 : ∀ k, (W.drewN k).cell? ⟨b2, 0, none⟩ = some (.string key) := fun _ => h2
  have k3 : ∀ k, (W.drewN k).cell? ⟨g, off + i * 2, none⟩ = some (.string x) := fun _ => hx
  clear h1 h2 hx
  unfold ltB
  go_enter Tryz.func76, Tryz.ntmps76
  go_wp2
  go_quiet (fail)
  go_wp2
  go_ret
  exact ⟨rfl, _, rfl⟩
set_option maxHeartbeats 2000000 in
set_option maxRecDepth 100000 in
theorem find_any (w : World) (ao : Option Addr) (c : Nat) (l : List Ent) (key : ByteArray) (hl : ERow w ao l) (hs : ascB l = true) (hn : l.length ≤ 1000000) :
    Calls Tryz.prog 40 #[.slice ao l.length c, .string key] w fun e w' => e = .returned (.tuple #[.int .i64 (lIx l key : Nat), .bool (lHas l key)]) ∧ Below w.heap.size w w' := by
  obtain ⟨W0, hW0⟩ : ∃ W0, W0 = (w.alloc (.cells #[.slice ao l.length c] 31)).alloc (.cells #[.string key] 9) := ⟨_, rfl⟩
  have hsize : W0.heap.size = w.heap.size + 1 + 1 := by rw [hW0]; simp
  have hB0 : Below w.heap.size w W0 := by rw [hW0]; exact ((Below.refl _ w).alloc (Nat.le_refl _) _).alloc (by simp) _
  have ca : W0.cell? ⟨w.heap.size, 0, none⟩ = some (.slice ao l.length c) := by rw [hW0]; exact cell_alloc_sl _ (cell_new_sl w _ _)
  have cx : W0.cell? ⟨w.heap.size + 1, 0, none⟩ = some (Value.string key) := by rw [hW0]; have := cell_new_sl (w.alloc (.cells #[.slice ao l.length c] 31)) (Value.string key) 9; rwa [World.size_alloc] at this
  have HR := Lib.hid (hl.made hB0)
  have eg : ∀ args w, (callFunc 76 args).run Tryz.prog w = .ok (.enter 76 args) w := enters_of Tryz.func76 (by kernel_rfl) rfl
  have hS := Any.sort_Search Tryz.search 76 #[.pointer (some ⟨w.heap.size, 0, none⟩), .pointer (some ⟨w.heap.size + 1, 0, none⟩)] l.length (fun i => !ltB (l.getD i (⟨#[]⟩, ⟨#[]⟩)).1 key) W0 eg (by omega)
    (fun m os i hi => by
      obtain ⟨g, off, e, c0, -⟩ := HR.out.at hi
      have hgl := World.block_lt_of_cell? W0 _ c0
      have hx := cell_grown hgl c0 m os
      refine (find1_any w.heap.size (w.heap.size + 1) ao l.length c l[i].1 key i g off _ hi (cell_grown (by simp [hsize]; omega) ca m os) (cell_grown (by simp [hsize]) cx m os) e hx).mono ?_
      rintro e2 w2 ⟨rfl, q, rfl⟩
      refine ⟨?_, q, #[], by rw [grow_empty]⟩
      rw [List.getD_eq_getElem?_getD, List.getElem?_eq_getElem hi]; rfl)
    (fun a b ha hb hp => by
      have hal : a < l.length := by omega
      rw [List.getD_eq_getElem?_getD, List.getElem?_eq_getElem hb]
      rw [List.getD_eq_getElem?_getD, List.getElem?_eq_getElem hal] at hp
      simp only [Option.getD_some, Bool.not_eq_true'] at hp ⊢
      exact asc_mono hs key a b ha hb hp)
  simp only [Bool.not_not] at hS
  rw [count_take (f := fun q => ltB q.1 key)] at hS
  change Calls _ _ _ _ fun e w' => e = .returned (.int .i64 ((lIx l key : Nat) : Int)) ∧ _ at hS
  have hix := lIx_le l key
  have HBF : Hid (∀ W q, RowKit.Below W0.heap.size W0 W → RowKit.Below w.heap.size w (W.drewN q)) := fun W q h => hB0.trans ((h.trans ((drewN_below W q).mono h.size)).mono hB0.size)
  have HG : Hid (∀ q os, RowKit.Below W0.heap.size W0 (Go.Sort.grow (W0.drewN q) os)) := fun q os => below_grown_sl W0.heap.size W0 q os (Nat.le_refl _)
  have HS := Lib.hid hS
  have HW0 := Lib.hid hW0
  have HC1 : Hid (∀ W, RowKit.Below W0.heap.size W0 W → ∀ q, (W.drewN q).cell? ⟨w.heap.size, 0, none⟩ = some (.slice ao l.length c)) := fun W hB q => (hB.cell (p := ⟨w.heap.size, 0, none⟩) (World.block_lt_of_cell? W0 _ ca)).trans ca
  have HC2 : Hid (∀ W, RowKit.Below W0.heap.size W0 W → ∀ q, (W.drewN q).cell? ⟨w.heap.size + 1, 0, none⟩ = some (.string key)) := fun W hB q => (hB.cell (p := ⟨w.heap.size + 1, 0, none⟩) (World.block_lt_of_cell? W0 _ cx)).trans cx
  by_cases hi : lIx l key < l.length
  · have hx : ((l[lIx l key]'hi).1.toList == key.toList) = lHas l key := by
      unfold lHas
      rw [List.getElem?_eq_getElem hi]
      by_cases hk : (l[lIx l key]'hi).1 = key
      · simp [hk]
      · rw [bytes_neq hk]; simp [hk]
    have HC3 : Hid (∀ W, RowKit.Below W0.heap.size W0 W → ∃ g off, ao = some ⟨g, off, none⟩ ∧ ∀ q, (W.drewN q).cell? ⟨g, off + lIx l key * 2, none⟩ = some (.string (l[lIx l key]'hi).1)) := fun W hB => by
      obtain ⟨g, off, e, c0, -⟩ := (HR.out.made hB).at hi
      exact ⟨g, off, e, fun _ => c0⟩
    clear hB0 hS hW0 ca cx HR hl hs eg
    generalize (l[lIx l key]'hi).1 = x at *
    generalize lHas l key = b at *
    generalize lIx l key = ix at *
    generalize l.length = n at *
    have e1 : ((ix : Int) < (n : Int)) := by omega
    go_enter Tryz.func40, Tryz.ntmps40
    go_wp2_with fail
    rw [HW0.out.symm]
    refine HS.out.mono ?_
    rintro e w2 ⟨rfl, q, os, rfl⟩
    have HB2 := HG.out q os
    have HB3 := Lib.hid (HBF.out _ · HB2)
    have k1 := HC1.out _ HB2
    have k2 := HC2.out _ HB2
    obtain ⟨g, off, rfl, k3⟩ := HC3.out _ HB2
    clear HB2 HC1 HC2 HC3 HS HW0 HBF HG
    generalize Go.Sort.grow (W0.drewN q) os = w2 at *
    go_wp2
    go_quiet (fail)
    go_wp2
    go_ret2
    exact ⟨rfl, HB3.out _⟩
  · have hx : lHas l key = false := by unfold lHas; rw [List.getElem?_eq_none (by omega)]
    rw [hx]
    clear hB0 hS hW0 ca cx HR hl hs eg hx
    generalize lIx l key = ix at *
    generalize l.length = n at *
    have e1 : ¬ ((ix : Int) < (n : Int)) := by omega
    go_enter Tryz.func40, Tryz.ntmps40
    go_wp2_with fail
    rw [HW0.out.symm]
    refine HS.out.mono ?_
    rintro e w2 ⟨rfl, q, os, rfl⟩
    have HB2 := HG.out q os
    have HB3 := Lib.hid (HBF.out _ · HB2)
    have k1 := HC1.out _ HB2
    have k2 := HC2.out _ HB2
    clear HB2 HC1 HC2 HS HW0 HBF HG
    generalize Go.Sort.grow (W0.drewN q) os = w2 at *
    go_wp2
    go_quiet (fail)
    go_wp2
    go_ret2
    exact ⟨rfl, HB3.out _⟩
end
/-! TLeaf -/
section
set_option linter.unusedSimpArgs false
set_option linter.unusedVariables false
open Go.RowKit Go.Maps Go.Shelf

/-- the place of the entry below which a key lies -/
def cIx (l : List Ent) (key : ByteArray) : Nat := if lHas l key then lIx l key else lIx l key - 1
def lPut (l : List Ent) (key value : ByteArray) : List Ent := if lHas l key then repL l (lIx l key) [(key, value)] else insL l (lIx l key) [(key, value)]
def lTake (l : List Ent) (key : ByteArray) : List Ent := if lHas l key then l.take (lIx l key) ++ l.drop (lIx l key + 1) else l
theorem lHas_at {l : List Ent} {key : ByteArray} (h : lHas l key = true) : ∃ hi : lIx l key < l.length, (l[lIx l key]'hi).1 = key := by
  unfold lHas at h
  by_cases hi : lIx l key < l.length
  · rw [List.getElem?_eq_getElem hi] at h
    exact ⟨hi, by simpa using h⟩
  · rw [List.getElem?_eq_none (by omega)] at h; cases h
set_option maxHeartbeats 1000000 in
theorem child_any (w : World) (ao : Option Addr) (c : Nat) (l : List Ent) (key : ByteArray) (hl : ERow w ao l) (hs : ascB l = true) (hn : l.length ≤ 1000000) :
    Calls Tryz.prog 42 #[.slice ao l.length c, .string key] w fun e w' => e = .returned (.int .i64 (cIx l key : Nat)) ∧ Below w.heap.size w w' := by
  have hF := find_any w ao c l key hl hs hn
  have hix := lIx_le l key
  unfold cIx
  clear hl hs
  generalize lIx l key = ix at *
  generalize l.length = n at *
  cases hb : lHas l key with
  | true =>
    rw [hb] at hF
    simp only [if_true]
    clear hb
    have e1 : ¬ ((ix : Int) < 0) := by omega
    have e2 : max (ix : Int) 0 = ix := by omega
    go_enter Tryz.func42, Tryz.ntmps42
    go_wp2_with (go_at_call 40; refine hF.mono ?_; rintro e w' ⟨rfl, hB⟩)
    go_ret
    exact ⟨rfl, hB⟩
  | false =>
    rw [hb] at hF
    simp only [if_false, Bool.false_eq_true]
    clear hb
    have e2 : max ((ix : Int) - 1) 0 = ((ix - 1 : Nat) : Int) := by omega
    go_enter Tryz.func42, Tryz.ntmps42
    go_wp2_with (go_at_call 40; refine hF.mono ?_; rintro e w' ⟨rfl, hB⟩)
    go_ret
    exact ⟨by rw [← e2]; rfl, hB⟩
theorem entCells_cons (q : Ent) (l : List Ent) : entCells (q :: l) = .string q.1 :: .string q.2 :: entCells l := by simp [entCells]
theorem entCells_rep (l : List Ent) {i : Nat} (h : i < l.length) (x : ByteArray) : entCells (repL l i [(l[i].1, x)]) = (entCells l).set (i * 2 + 1) (.string x) := by
  have e1 : entCells l = entCells (l.take i) ++ (.string l[i].1 :: .string l[i].2 :: entCells (l.drop (i + 1))) := by
    conv => lhs; rw [← List.take_append_drop i l, List.drop_eq_getElem_cons h, entCells_append, entCells_cons]
  have e2 : (entCells (l.take i)).length = i * 2 := by rw [entCells_len, List.length_take]; omega
  rw [e1, List.set_append_right _ _ (by omega), e2]
  unfold repL
  rw [entCells_append, entCells_append, show i * 2 + 1 - i * 2 = 1 by omega]
  simp [entCells]
theorem repL_length (l : List Ent) {i : Nat} (h : i < l.length) (q : Ent) : (repL l i [q]).length = l.length := by simp [repL]; omega
theorem EOwn.setVal {w : World} {B g n c : Nat} {l : List Ent} (h : EOwn w B (.slice (some ⟨g, 0, none⟩) n c) l) {i : Nat} (hi : i < l.length) (x : ByteArray) :
    EOwn (w.setCell ⟨g, i * 2 + 1, none⟩ (.string x)) B (.slice (some ⟨g, 0, none⟩) n c) (repL l i [(l[i].1, x)]) := by
  obtain ⟨g', cur, e, rfl, hbg, hg, hlc, hcm, hcs, hct⟩ := h.block
  simp at e
  subst e
  have hg2 := heap_setCell_same hg (i * 2 + 1) (.string x)
  have := EOwn.of_block (B := B) (l := repL l i [(l[i].1, x)]) hg2 hbg (cap := c) (by rw [repL_length l hi]; exact hlc) hcm (by simp [hcs]) (by
    rw [repL_length l hi, entCells_rep l hi, ← hct]
    simp only [Array.toList_setIfInBounds]
    exact List.take_set ..)
  rw [repL_length l hi] at this
  exact this
set_option maxHeartbeats 2000000 in
set_option maxRecDepth 100000 in
theorem lput_any (w : World) (ao : Option Addr) (c : Nat) (l : List Ent) (key value : ByteArray) (hl : ERow w ao l) (hat : ∀ a, ao = some a → ∃ g off, a = ⟨g, off, none⟩) (hnil : ao = none → l = [] ∧ c = 0) (hs : ascB l = true) (hn : l.length ≤ 10000) :
    Calls Tryz.prog 85 #[.slice ao l.length c, .string key, .string value] w fun e w' => ∃ v, e = .returned v ∧ EOwn w' w.heap.size v (lPut l key value) ∧ Below w.heap.size w w' := by
  have hF := find_any w ao c l key hl hs (by omega)
  have HCl : Hid (∀ W, Below w.heap.size w W → Calls Tryz.prog 80 #[.slice ao l.length c] W fun e w' => ∃ v, e = .returned v ∧ EOwn w' w.heap.size v l ∧ Below w.heap.size w w') := fun W hB =>
    (clone_any W ao c l (hl.made hB) hat hnil (by omega)).mono fun e w' ⟨v, he, ho, hb⟩ => ⟨v, he, ho.base hB.size, hB.trans (hb.mono hB.size)⟩
  have hix := lIx_le l key
  cases hb : lHas l key with
  | true =>
    obtain ⟨hi, hk⟩ := lHas_at hb
    have HR : Hid (∀ W v, EOwn W w.heap.size v l → Below w.heap.size w W → ∃ g cc, v = .slice (some ⟨g, 0, none⟩) l.length cc ∧ (W.cell? ⟨g, lIx l key * 2 + 1, none⟩).isSome = true ∧ W.frozen? ⟨g, lIx l key * 2 + 1, none⟩ = false ∧ W.cell? ⟨g, lIx l key * 2 + 1, none⟩ = some (.string (l[lIx l key]'hi).2) ∧
        EOwn (W.setCell ⟨g, lIx l key * 2 + 1, none⟩ (.string value)) w.heap.size v (lPut l key value) ∧ Below w.heap.size w (W.setCell ⟨g, lIx l key * 2 + 1, none⟩ (.string value))) := fun W v ho hB => by
      obtain ⟨a2, c2, rfl, hr, -⟩ := ho.parts
      obtain ⟨g, off, rfl, c0, c1⟩ := hr.at hi
      obtain ⟨g', cur, e, -, hbg, hg, -⟩ := ho.block
      simp at e
      obtain ⟨rfl, rfl⟩ := e
      rw [Nat.zero_add] at c1
      refine ⟨g, c2, rfl, by rw [c1]; rfl, frozen_of hg _, c1, ?_, hB.setCell hbg _⟩
      have := ho.setVal hi value
      rw [hk] at this
      unfold lPut
      rw [hb]
      exact this
    rw [hb] at hF
    clear hl hat hnil hs hk hb
    generalize lPut l key value = out at *
    generalize (l[lIx l key]'hi).2 = old at *
    generalize lIx l key = ix at *
    obtain ⟨n, HN⟩ : ∃ n, Hid (l.length = n) := ⟨_, Lib.hid rfl⟩
    rw [HN.out] at hF HCl hi hix hn ⊢
    have HR2 : Hid (∀ W v, EOwn W w.heap.size v l → Below w.heap.size w W → ∃ g cc, v = .slice (some ⟨g, 0, none⟩) n cc ∧ W.frozen? ⟨g, ix * 2 + 1, none⟩ = false ∧ W.cell? ⟨g, ix * 2 + 1, none⟩ = some (.string old) ∧
        EOwn (W.setCell ⟨g, ix * 2 + 1, none⟩ (.string value)) w.heap.size v out ∧ Below w.heap.size w (W.setCell ⟨g, ix * 2 + 1, none⟩ (.string value))) := fun W v ho hB => by
      obtain ⟨g, cc, e, -, r⟩ := HR.out W v ho hB
      rw [HN.out] at e
      exact ⟨g, cc, e, r⟩
    clear HR HN
    have e1 : (ix : Int) < (n : Int) := by omega
    go_enter Tryz.func85, Tryz.ntmps85
    go_wp2_with (first
      | (go_at_call 40; refine hF.mono ?_; rintro e w' ⟨rfl, hB⟩)
      | (go_at_call 80; refine (HCl.out _ hB).mono ?_; rintro e w2 ⟨v, rfl, ho, hB2⟩
         obtain ⟨g, cc, rfl, f1, c1, ho2, hb2⟩ := HR2.out w2 v ho hB2
         have HO2 := Lib.hid ho2
         have HB3 := Lib.hid hb2))
    go_ret
    exact ⟨_, rfl, HO2.out, HB3.out⟩
  | false =>
    have HI : Hid (∀ W v vb, EOwn W w.heap.size v l → Below w.heap.size w W → W.heap.size = vb → Calls Tryz.prog 129 #[v, .int .i64 (lIx l key : Nat), .slice (some ⟨vb, 0, none⟩) 1 1] (W.alloc (.cells #[.string key, .string value] 59)) fun e w' => ∃ v', e = .returned v' ∧ EOwn w' w.heap.size v' (lPut l key value) ∧ Below w.heap.size w w') := fun W v vb ho hB e => by
      subst e
      have hB1 : Below W.heap.size W (W.alloc (.cells #[.string key, .string value] 59)) := (Below.refl _ _).alloc (Nat.le_refl _) _
      refine (insert_any (W.alloc (.cells #[.string key, .string value] 59)) w.heap.size v l (ho.made hB1) (by have := hB.size; simp; omega) (lIx l key) hix (key, value) W.heap.size (heap_alloc_new' W _) (fun e => ?_) (by omega)).mono ?_
      · have := (ho.lt _ e).2; omega
      · rintro e w' ⟨v', he, ho', hb'⟩
        refine ⟨v', he, ?_, hB.trans ((hB1.mono hB.size).trans hb')⟩
        unfold lPut
        rw [hb]
        exact ho'
    rw [hb] at hF
    clear hl hat hnil hs hb
    generalize lPut l key value = out at *
    generalize lIx l key = ix at *
    obtain ⟨n, HN⟩ : ∃ n, Hid (l.length = n) := ⟨_, Lib.hid rfl⟩
    rw [HN.out] at hF HCl hix hn ⊢
    clear HN
    go_enter Tryz.func85, Tryz.ntmps85
    go_wp2_with (first
      | (go_at_call 40; refine hF.mono ?_; rintro e w' ⟨rfl, hB⟩)
      | (go_at_call 80; refine (HCl.out _ hB).mono ?_; rintro e w2 ⟨v, rfl, ho, hB2⟩
         have HI2 := HI.out w2 v _ ho hB2 rfl)
      | (go_at_call 129; refine HI2.mono ?_; rintro e w3 ⟨v3, rfl, ho3, hB3⟩))
    go_ret
    exact ⟨_, rfl, ho3, hB3⟩
set_option maxHeartbeats 2000000 in
set_option maxRecDepth 100000 in
theorem ltake_any (w : World) (ao : Option Addr) (c : Nat) (l : List Ent) (key : ByteArray) (hl : ERow w ao l) (hat : ∀ a, ao = some a → ∃ g off, a = ⟨g, off, none⟩) (hnil : ao = none → l = [] ∧ c = 0) (hs : ascB l = true) (hn : l.length ≤ 10000) :
    Calls Tryz.prog 78 #[.slice ao l.length c, .string key] w fun e w' => ∃ v, e = .returned (.tuple #[v, .bool (lHas l key)]) ∧ EOwn w' w.heap.size v (lTake l key) ∧ Below w.heap.size w w' := by
  have hF := find_any w ao c l key hl hs (by omega)
  have HCl : Hid (∀ W, Below w.heap.size w W → Calls Tryz.prog 80 #[.slice ao l.length c] W fun e w' => ∃ v, e = .returned v ∧ EOwn w' w.heap.size v l ∧ Below w.heap.size w w') := fun W hB =>
    (clone_any W ao c l (hl.made hB) hat hnil (by omega)).mono fun e w' ⟨v, he, ho, hb⟩ => ⟨v, he, ho.base hB.size, hB.trans (hb.mono hB.size)⟩
  have hix := lIx_le l key
  cases hb : lHas l key with
  | true =>
    obtain ⟨hi, hk⟩ := lHas_at hb
    have HD : Hid (∀ W v, EOwn W w.heap.size v l → Below w.heap.size w W → Calls Tryz.prog 79 #[v, .int .i64 (lIx l key : Nat), .int .i64 ((lIx l key : Int) + 1)] W fun e w' => ∃ v', e = .returned v' ∧ EOwn w' w.heap.size v' (lTake l key) ∧ Below w.heap.size w w') := fun W v ho hB => by
      refine (delete_any W w.heap.size v l ho hB.size (lIx l key) hi (by omega)).mono ?_
      rintro e w' ⟨v', he, ho', hb'⟩
      refine ⟨v', he, ?_, hB.trans hb'⟩
      unfold lTake
      rw [hb]
      exact ho'
    rw [hb] at hF
    clear hl hat hnil hs hb hk
    generalize lTake l key = out at *
    generalize lIx l key = ix at *
    obtain ⟨n, HN⟩ : ∃ n, Hid (l.length = n) := ⟨_, Lib.hid rfl⟩
    rw [HN.out] at hF HCl hix hn hi ⊢
    clear HN
    go_enter Tryz.func78, Tryz.ntmps78
    go_wp2_with (first
      | (go_at_call 40; refine hF.mono ?_; rintro e w' ⟨rfl, hB⟩)
      | (go_at_call 80; refine (HCl.out _ hB).mono ?_; rintro e w2 ⟨v, rfl, ho, hB2⟩
         have HD2 := HD.out w2 v ho hB2)
      | (go_at_call 79; refine HD2.mono ?_; rintro e w3 ⟨v3, rfl, ho3, hB3⟩))
    go_ret2
    exact ⟨_, rfl, ho3, hB3⟩
  | false =>
    have HT : Hid (lTake l key = l) := by show _ = _; unfold lTake; rw [hb]; rfl
    rw [hb] at hF
    clear hl hat hnil hs hb
    rw [HT.out]
    clear HT
    generalize lIx l key = ix at *
    obtain ⟨n, HN⟩ : ∃ n, Hid (l.length = n) := ⟨_, Lib.hid rfl⟩
    rw [HN.out] at hF HCl hix hn ⊢
    clear HN
    go_enter Tryz.func78, Tryz.ntmps78
    go_wp2_with (first
      | (go_at_call 40; refine hF.mono ?_; rintro e w' ⟨rfl, hB⟩)
      | (go_at_call 80; refine (HCl.out _ hB).mono ?_; rintro e w2 ⟨v, rfl, ho, hB2⟩))
    go_ret2
    exact ⟨_, rfl, ho, hB2⟩
end
/-! TPack -/
section
set_option linter.unusedSimpArgs false
set_option linter.unusedVariables false
open Go.RowKit Go.Maps Go.Shelf Go.Lib

theorem strCells_append (a b : ByteArray) : strCells (a ++ b) = strCells a ++ strCells b := by simp [strCells, ByteArray.toList_data_append]
set_option maxRecDepth 100000 in
/-- a length and a text behind it, appended to bytes -/
theorem push_piece {B : Nat} {w w1 : World} {ao : Option Addr} {n c : Nat} {s : ByteArray} (h : w.ownsRow B 5 1 (.slice ao n c) n (strCells s)) (hB1 : Below w.heap.size w w1) (hb : B ≤ w.heap.size) (x : ByteArray) (hn : n + 1 + x.size ≤ 1000000) (hx : x.size < 256) :
    ∃ a1 c1 w2 a2 c2 w3, (Builtin.append_ #[154, 154] 154 #[.slice ao n c, .slice (some ⟨w1.heap.size, 0, none⟩) 1 1]).run Tryz.prog (w1.alloc (.cells #[.int .u8 x.size] 5)) = .ok (.slice a1 (n + 1) c1) w2 ∧
      (Builtin.append_ #[154, 9] 154 #[.slice a1 (n + 1) c1, .string x]).run Tryz.prog w2 = .ok (.slice a2 (n + 1 + x.size) c2) w3 ∧
      w3.ownsRow B 5 1 (.slice a2 (n + 1 + x.size) c2) (n + 1 + x.size) (strCells (s ++ (⟨#[UInt8.ofNat x.size]⟩ ++ x))) ∧ Below B w1 w3 ∧
      (∀ (b : Nat) (o : Obj), w1.heap[b]? = some o → (∀ cs, o ≠ .cells cs 5 (0, 0)) → w2.heap[b]? = some o ∧ w3.heap[b]? = some o) := by
  have hsz1 := hB1.size
  have h1 : (w1.alloc (.cells #[.int .u8 x.size] 5)).ownsRow B 5 1 (.slice ao n c) n (strCells s) := by
    refine ownsRow_keep h fun g hg => ?_
    have hgl := (h.lt g hg).2
    rw [Below.heap_alloc _ _ _ (by omega)]
    exact hB1.block g hgl
  obtain ⟨a1, c1, w2, r1, o1, g1, t1⟩ := many_append 5 154 (.int .u8 0) 1 1 info_u8 Tryz.underlying154 rfl (by decide) (by decide) (w1.alloc (.cells #[.int .u8 x.size] 5)) B (.slice ao n c) n (strCells s) h1 ⟨w1.heap.size, 0, none⟩ 1 1 [.int .u8 x.size] rfl
    (fun j u hj => by
      obtain rfl : j = 0 := by have := (List.getElem?_eq_some_iff.1 hj).1; simpa using this
      simp at hj
      subst hj
      rw [add_none, cell_of (heap_alloc_new' w1 _)]; rfl)
    (fun u hu => by simp at hu; subst hu; rfl) (by omega) (by simp; omega)
  obtain ⟨i0, hi, hz0, hz1, hz2⟩ := info_parts info_u8
  have hg1 := g1.size
  obtain ⟨v3, w3, r2, o2, g2, -⟩ := run_append_own_string (P := Tryz.prog) w2 B 154 9 154 5 i0 Tryz.underlying154 Tryz.underlying9 hi hz0 hz1 hz2 _ _ _ o1 x (by unfold maxLen; omega) (by omega) (by simp at hg1; omega)
  obtain ⟨a2, c2, rfl⟩ := ownsRow_slice o2
  refine ⟨a1, c1, w2, a2, c2, w3, r1, r2, ?_, ?_, ?_⟩
  · have e : strCells (s ++ (⟨#[UInt8.ofNat x.size]⟩ ++ x)) = strCells s ++ [.int .u8 x.size] ++ strCells x := by
      rw [strCells_append, strCells_append, List.append_assoc]
      congr 2
      simp [strCells]
      omega
    rw [e]; exact o2
  · have hBa : Below B w1 (w1.alloc (.cells #[.int .u8 x.size] 5)) := (Below.refl _ _).alloc (by omega) _
    exact (hBa.trans (grown_below g1 (fun b hb => (h1.lt b hb).1) (by simp; omega))).trans (grown_below g2 (fun b hb => (o1.lt b hb).1) (by simp at hg1; omega))
  · intro b o hbo hne
    have hbl := lt_of hbo
    have e1 : (w1.alloc (.cells #[.int .u8 x.size] 5)).heap[b]? = some o := (Below.heap_alloc _ _ _ hbl).trans hbo
    have e2 : w2.heap[b]? = some o := (g1.block b (lt_of e1) (fun e => by
      obtain ⟨cur, hc⟩ := ownsRow_block h1 e.symm; rw [e1] at hc; simp at hc; exact hne _ hc)).trans e1
    exact ⟨e2, (g2.block b (lt_of e2) (fun e => by
      obtain ⟨cur, hc⟩ := ownsRow_block o1 e.symm; rw [e2] at hc; simp at hc; exact hne _ hc)).trans e2⟩
/-- bytes as a text -/
theorem conv_bytes {B : Nat} {w : World} {ao : Option Addr} {n c : Nat} {s : ByteArray} (h : w.ownsRow B 5 1 (.slice ao n c) n (strCells s)) :
    (convert 154 9 (.slice ao n c)).run Tryz.prog w = .ok (.string s) w := by
  have hn : n = s.size := by have := h.1; rw [strCells_length] at this; omega
  have hs : strOfNums (s.data.toList.map fun b => (b.toNat : Int)) = s := by
    unfold strOfNums
    have : ((s.data.toList.map fun b => (b.toNat : Int)).map fun n => UInt8.ofNat n.toNat) = s.data.toList := by
      rw [List.map_map]
      conv => rhs; rw [← List.map_id s.data.toList]
      apply List.map_congr_left
      intro b _
      simp
    rw [this]
  rcases h.2 with ⟨hv, h0⟩ | ⟨g, cap, cur, hv, hb, hg, hn2, hm, hsz, ht⟩
  · simp at hv
    obtain ⟨rfl, rfl, rfl⟩ := hv
    rw [run_convert_bytes_nil w 154 5 Tryz.underlying154 Tryz.underlying5 0 0 9 Tryz.underlying9]
    congr 2
    have : s.data.toList.length = 0 := by rw [Array.length_toList]; show s.size = 0; omega
    have h2 : s.data.toList = [] := List.length_eq_zero_iff.1 this
    cases s with | mk d => simp at h2; subst h2; rfl
  · simp at hv
    obtain ⟨rfl, rfl⟩ := hv
    have hl : (s.data.toList.map fun b => (b.toNat : Int)).length = n := by rw [List.length_map, Array.length_toList]; exact hn.symm
    rw [run_convert_bytes_arg w 154 5 Tryz.underlying154 Tryz.underlying5 g 0 n c _ hl (fun i hi => by
      rw [Nat.zero_add, h.cellAt i (by omega)]
      have hi2 : i < s.data.toList.length := by rw [Array.length_toList]; show i < s.size; omega
      unfold strCells
      rw [List.getElem?_map, List.getD_eq_getElem?_getD, List.getElem?_map, List.getElem?_eq_getElem hi2]; rfl) 9 Tryz.underlying9, hs]
/-- an entry's box -/
abbrev boxE (x y : ByteArray) : Obj := .cells #[.string x, .string y] 59 (0, 0)
def rawP (kind : Nat) (l : List Ent) (k : Nat) : ByteArray := ⟨#[UInt8.ofNat kind, UInt8.ofNat l.length]⟩ ++ recsB (l.take k)
theorem rawP_zero (kind : Nat) (l : List Ent) : rawP kind l 0 = ⟨#[UInt8.ofNat kind, UInt8.ofNat l.length]⟩ := by
  unfold rawP
  exact ByteArray.append_empty
theorem rawP_all (kind : Nat) (l : List Ent) : rawP kind l l.length = rawB kind l := by unfold rawP rawB; rw [List.take_length]
theorem rawP_succ (kind : Nat) (l : List Ent) {k : Nat} (h : k < l.length) : rawP kind l (k + 1) = (rawP kind l k ++ (⟨#[UInt8.ofNat l[k].1.size]⟩ ++ l[k].1)) ++ (⟨#[UInt8.ofNat l[k].2.size]⟩ ++ l[k].2) := by
  unfold rawP
  rw [recsB_succ l h]
  unfold recB
  simp only [ByteArray.append_assoc]
theorem rawP_size (kind : Nat) (l : List Ent) (k : Nat) : (rawP kind l k).size = 2 + lSum (l.take k) := by
  unfold rawP
  rw [ByteArray.size_append, recsB_size]; rfl
set_option maxHeartbeats 4000000 in
set_option maxRecDepth 100000 in
theorem pack_any (w : World) (ao : Option Addr) (c : Nat) (kind : Nat) (l : List Ent) (hl : ERow w ao l) (hf : Fine kind l) :
    Calls Tryz.prog 70 #[.int .i64 kind, .slice ao l.length c] w fun e w' => e = .returned (.tuple #[.string (packB kind l), .int .i64 0]) ∧ Below w.heap.size w w' := by
  have hlen := hf.len
  have HC : Hid (∀ W, Below w.heap.size w W → ∀ k (hk : k < l.length), ∃ g off, ao = some ⟨g, off, none⟩ ∧ W.cell? ⟨g, off + k * 2, none⟩ = some (.string (l[k]'hk).1) ∧ W.cell? ⟨g, off + k * 2 + 1, none⟩ = some (.string (l[k]'hk).2)) := fun W hB k hk => (hl.made hB).at hk
  have HI : Hid (∀ k (hk : k < l.length), (l[k]'hk).1.size ≤ 32 ∧ (l[k]'hk).2.size ≤ 64) := fun k hk => hf.all _ (List.getElem_mem hk)
  have HA : Hid (∀ k (hk : k + 1 < l.length), Op.bytesLess (l[k]'(by omega)).1.toList (l[k + 1]'hk).1.toList = true) := fun k hk => ascB_get hf.asc k hk
  have HS : Hid (∀ W, Below w.heap.size w W → Calls Tryz.prog 87 #[.slice ao l.length c] W fun e w' => e = .returned (.int .i64 (lSize l : Nat)) ∧ Below w.heap.size w w') := fun W hB => (lsize_any W ao c l (hl.made hB) (by have := hf.size; omega)).mono fun _ _ ⟨a, b⟩ => ⟨a, hB.trans (b.mono hB.size)⟩
  have HP : Hid (∀ W, Below w.heap.size w W → Calls Tryz.prog 111 #[.string (rawB kind l), .int .i64 256] W fun e w' => e = .returned (.tuple #[.string (packB kind l), .int .i64 0]) ∧ Below w.heap.size w w') := fun W hB =>
    (pad_any (rawB kind l) 256 W (by rw [rawB_size]; exact hf.size) (by omega)).mono fun _ _ ⟨a, b⟩ => ⟨a, hB.trans (b.mono hB.size)⟩
  have HR0 : Hid (strCells (rawP kind l 0) = [.int .u8 kind, .int .u8 l.length]) := by
    show _ = _
    rw [rawP_zero]
    rcases hf.kind with rfl | rfl <;> simp [strCells] <;> omega
  have HRA : Hid (rawP kind l l.length = rawB kind l) := rawP_all kind l
  have HRS : Hid (∀ k (hk : k < l.length), rawP kind l (k + 1) = (rawP kind l k ++ (⟨#[UInt8.ofNat (l[k]'hk).1.size]⟩ ++ (l[k]'hk).1)) ++ (⟨#[UInt8.ofNat (l[k]'hk).2.size]⟩ ++ (l[k]'hk).2)) := fun k hk => rawP_succ kind l hk
  have HSZ : Hid (∀ (W : World) (B : Nat) (ao2 : Option Addr) (n c2 k : Nat), W.ownsRow B 5 1 (.slice ao2 n c2) n (strCells (rawP kind l k)) → n ≤ 256) := fun W B ao2 n c2 k h => by
    have h1 := h.1
    rw [strCells_length, rawP_size] at h1
    have h2 := lSum_take_le l k
    have h3 := hf.size
    unfold lSize at h3
    omega
  have hsz := hf.size
  have hsz' : ¬ ((256 : Int) < (lSize l : Nat)) := by omega
  clear hsz
  have hk12 := hf.kind
  clear hl hf
  obtain ⟨m, HM⟩ : ∃ m, Hid (l.length = m) := ⟨_, Lib.hid rfl⟩
  rw [HM.out] at hlen HS HR0 HRA ⊢
  have hu : IntKind.u8.wrap (m : Int) = m := wraps_u8 _ (by omega) (by omega)
  generalize lSize l = sz at *
  generalize rawB kind l = raw at *
  generalize packB kind l = pk at *
  generalize rawP kind l = rp at *
  obtain ⟨kz, hkz⟩ : ∃ kz : Int, (kind : Int) = kz := ⟨_, rfl⟩
  rw [hkz] at HR0
  have HKZ := Lib.hid hkz
  clear hkz
  rcases hk12 with rfl | rfl
  all_goals
    go_enter Tryz.func70, Tryz.ntmps70
    go_wp2
    go_loopw [19] (fun v wr => ∃ k : Nat, v = .int .i64 k ∧ k ≤ m ∧ Below w.heap.size w wr) (fun v _ => m - (intOf v).toNat)
    case atStart => exact ⟨0, rfl, by omega, Below.refl _ _⟩
    case round =>
      obtain ⟨k, rfl, hk, hB⟩ := hrel
      by_cases hlt : k < m
      · have hlt' : k < l.length := by rw [HM.out]; exact hlt
        have hBo : ∀ x y, Below w.heap.size w (wr.alloc (boxE x y)) := fun x y => hB.alloc hB.size _
        obtain ⟨g, off, rfl, c0, c1⟩ := HC.out wr hB k hlt'
        obtain ⟨i1, i2⟩ := HI.out k hlt'
        have i3 : ¬ ((32 : Int) < (l[k].1.size : Int)) := by omega
        have i4 : ¬ ((64 : Int) < (l[k].2.size : Int)) := by omega
        have b0 : ∀ q, ((wr.alloc (boxE l[k].1 l[k].2)).drewN q).cell? ⟨wr.heap.size, 0, none⟩ = some (.string l[k].1) := fun q => by
          show (wr.alloc _).cell? _ = _
          rw [cell_of (heap_alloc_new' wr _)]; rfl
        cases k with
        | zero =>
          have HB1 := Lib.hid (hBo l[0].1 l[0].2)
          clear hBo i1 i2 HC HI HA HS HP HR0 HRA HRS HSZ
          generalize l[0].1 = x at *
          generalize l[0].2 = y at *
          simp only [Nat.zero_mul, Nat.add_zero] at c0 c1
          go_wp2
          go_quiet (fail)
          go_wp2
          go_roundw
          case rel => exact ⟨1, by rfl, by omega, HB1.out.trans ((drewN_below _ _).mono HB1.out.size)⟩
          case measure => simp [intOf]; omega
        | succ k =>
          have hk' : k < l.length := by omega
          obtain ⟨g2, off2, e2, d0, -⟩ := HC.out _ (hBo l[k + 1].1 l[k + 1].2) k hk'
          simp at e2
          obtain ⟨rfl, rfl⟩ := e2
          have d0' : ∀ q, ((wr.alloc (boxE l[k + 1].1 l[k + 1].2)).drewN q).cell? ⟨g, off + k * 2, none⟩ = some (.string l[k].1) := fun q => d0
          have ha := HA.out k hlt'
          have HB1 := Lib.hid (hBo l[k + 1].1 l[k + 1].2)
          clear hBo i1 i2 HC HI HA HS HP HR0 HRA HRS HSZ d0
          generalize l[k + 1].1 = x at *
          generalize l[k + 1].2 = y at *
          generalize l[k].1 = z at *
          go_wp2
          go_quiet (fail)
          go_wp2
          go_roundw
          case rel => exact ⟨k + 1 + 1, by go_num, by omega, HB1.out.trans ((drewN_below _ _).mono HB1.out.size)⟩
          case measure => simp [intOf]; omega
      · obtain rfl : k = m := by omega
        clear HA
        have HS1 := HS.out wr hB
        clear HS
        go_wp2_with (go_at_call 87; refine HS1.mono ?_; rintro e w1 ⟨rfl, hB1⟩)
        have HB2 : Hid (Below w.heap.size w (w1.alloc (.cells #[.int .u8 kz, .int .u8 k] 5))) := hB1.alloc hB1.size _
        have HO2 : Hid ((w1.alloc (.cells #[.int .u8 kz, .int .u8 k] 5)).ownsRow w.heap.size 5 1 (.slice (some ⟨w1.heap.size, 0, none⟩) 2 2) 2 (strCells (rp 0))) := by
          show World.ownsRow _ _ _ _ _ _ _
          rw [HR0.out]
          exact ⟨rfl, .inr ⟨w1.heap.size, 2, _, rfl, hB1.size, heap_alloc_new' w1 _, Nat.le_refl _, by unfold maxLen; omega, rfl, rfl⟩⟩
        clear HR0
        first
          | (have hz : (1 : Int) = kz := HKZ.out; subst hz)
          | (have hz : (2 : Int) = kz := HKZ.out; subst hz)
        clear HKZ
        go_loopw [8, 61] (fun vo vi wr => ∃ (j : Nat) (ao2 : Option Addr) (s co : Nat), vo = .slice ao2 s co ∧ vi = .int .i64 j ∧ j ≤ k ∧ Hid (wr.ownsRow w.heap.size 5 1 (.slice ao2 s co) s (strCells (rp j))) ∧ Below w.heap.size w wr) (fun _ vi _ => k - (intOf vi).toNat)
        case atStart => exact ⟨0, _, 2, 2, rfl, rfl, by omega, HO2, HB2.out⟩
        case round =>
          obtain ⟨j, ao2, s, co, rfl, rfl, hj, HO, hBr⟩ := hrel
          by_cases hlt : j < k
          · have hlt' : j < l.length := by rw [HM.out]; exact hlt
            obtain ⟨g, off, rfl, c0, c1⟩ := HC.out wr hBr j hlt'
            obtain ⟨i1, i2⟩ := HI.out j hlt'
            have hs0 := HSZ.out wr w.heap.size ao2 s co j HO.out
            have HRJ := Lib.hid (HRS.out j hlt')
            have hux : IntKind.u8.wrap (l[j].1.size : Int) = l[j].1.size := wraps_u8 _ (by omega) (by omega)
            have huy : IntKind.u8.wrap (l[j].2.size : Int) = l[j].2.size := wraps_u8 _ (by omega) (by omega)
            have hBx : Below wr.heap.size wr (wr.alloc (boxE l[j].1 l[j].2)).drew := ((Below.refl _ wr).alloc (Nat.le_refl _) _).drew
            obtain ⟨a1, n1, w2, a2, n2, w3, r1, r2, ho3, hb3, hk3⟩ := push_piece HO.out hBx hBr.size l[j].1 (by omega) (by omega)
            have hsz1 : (wr.alloc (boxE l[j].1 l[j].2)).drew.heap.size = wr.heap.size + 1 := by show (wr.alloc _).heap.size = _; simp
            rw [hsz1] at r1
            clear hsz1
            have hbx : (wr.alloc (boxE l[j].1 l[j].2)).drew.heap[wr.heap.size]? = some (boxE l[j].1 l[j].2) := heap_alloc_new' wr _
            obtain ⟨x2, x3⟩ := hk3 _ _ hbx (by intro cs; simp)
            have hb03 : Below w.heap.size w w3 := (hBr.trans (hBx.mono hBr.size)).trans hb3
            obtain ⟨a4, n4, w5, a6, n6, w7, r4, r5, ho7, hb7, hk7⟩ := push_piece ho3 ((Below.refl w3.heap.size w3).drew) hb03.size l[j].2 (by omega) (by omega)
            obtain ⟨x5, x7⟩ := hk7 _ _ x3 (by intro cs; simp)
            rw [← HRJ.out] at ho7
            have HO7 := Lib.hid ho7
            have HB7 := Lib.hid (hb03.drew.trans hb7)
            clear HC HI HRS HSZ ho3 hb3 hk3 hb03 ho7 hb7 hk7 HRJ hBx HO hBr HP
            have d1 : (wr.alloc (boxE l[j].1 l[j].2)).drew.cell? ⟨wr.heap.size, 0, none⟩ = some (.string l[j].1) := by rw [cell_of hbx]; rfl
            have d1b : ∀ o, ((wr.alloc (boxE l[j].1 l[j].2)).alloc o).drew.cell? ⟨wr.heap.size, 0, none⟩ = some (.string l[j].1) := fun o => by
              show ((wr.alloc _).alloc o).cell? _ = _
              rw [World.cell?_alloc_lt _ _ ⟨wr.heap.size, 0, none⟩ (by simp)]; exact d1
            have d3a : w3.cell? ⟨wr.heap.size, 0, none⟩ = some (.string l[j].1) := by rw [cell_of x3]; rfl
            have d3b : ∀ o, (w3.alloc o).drew.cell? ⟨wr.heap.size, 1, none⟩ = some (.string l[j].2) := fun o => by
              show (w3.alloc o).cell? _ = _
              rw [World.cell?_alloc_lt _ _ ⟨wr.heap.size, 1, none⟩ (lt_of x3), cell_of x3]; rfl
            have d7 : w7.cell? ⟨wr.heap.size, 1, none⟩ = some (.string l[j].2) := by rw [cell_of x7]; rfl
            have d2 : w2.cell? ⟨wr.heap.size, 0, none⟩ = some (.string l[j].1) := by rw [cell_of x2]; rfl
            have d3 : w3.drew.cell? ⟨wr.heap.size, 1, none⟩ = some (.string l[j].2) := by rw [cell_of (w := w3.drew) x3]; rfl
            have d5 : w5.cell? ⟨wr.heap.size, 1, none⟩ = some (.string l[j].2) := by rw [cell_of x5]; rfl
            clear hbx x2 x3 x5 x7
            generalize l[j].1 = x at *
            generalize l[j].2 = y at *
            go_upto_region 17 with fail
            go_region_held3 (fun w' => w'.cell? ⟨wr.heap.size, 0, none⟩ = some (.string x)) (go_keep) (first
              | (refine step_append_run r1 rfl rfl rfl rfl rfl ?_)
              | (refine step_append_run r2 rfl rfl rfl rfl rfl ?_))
            all_goals
              go_upto_region 18 with fail
              go_region_held3 (fun w' => w'.cell? ⟨wr.heap.size, 1, none⟩ = some (.string y)) (go_keep) (first
                | (refine step_append_run r4 rfl rfl rfl rfl rfl ?_)
                | (refine step_append_run r5 rfl rfl rfl rfl rfl ?_))
              all_goals
                go_wp2
                go_roundw
                case rel => exact ⟨j + 1, _, _, _, rfl, by go_num, by omega, HO7, HB7.out⟩
                case measure => simp [intOf]; omega
          · obtain rfl : j = k := by omega
            have hcv := conv_bytes HO.out
            rw [HRA.out] at hcv
            have hp := HP.out wr hBr
            clear HC HI HRS HSZ HO HP HRA
            go_wp2_with (go_at_call 111; refine hp.mono ?_; rintro e w5 ⟨rfl, hB5⟩)
            go_ret2
            exact ⟨rfl, hB5⟩
end
/-! TUnp -/
section
set_option linter.unusedSimpArgs false
set_option linter.unusedVariables false
open Go.RowKit Go.Maps Go.Shelf Go.Lib

theorem ba_mid (A R : ByteArray) (c : UInt8) : ∀ h : A.size < (A ++ (⟨#[c]⟩ ++ R)).size, (A ++ (⟨#[c]⟩ ++ R))[A.size]'h = c := by
  intro h
  rw [ByteArray.getElem_append_right (Nat.le_refl _)]
  simp only [Nat.sub_self]
  rfl
theorem ba_ext (A t R : ByteArray) (c : UInt8) : (A ++ (⟨#[c]⟩ ++ (t ++ R))).extract (A.size + 1) (A.size + 1 + t.size) = t := by
  have h : ((A ++ (⟨#[c]⟩ ++ (t ++ R))).extract (A.size + 1) (A.size + 1 + t.size)).data.toList = t.data.toList := by
    rw [Lib.extract_data]
    have e : (A ++ (⟨#[c]⟩ ++ (t ++ R))).data.toList = (A.data.toList ++ [c]) ++ (t.data.toList ++ R.data.toList) := by
      simp [ByteArray.toList_data_append]
    have hl : (A.data.toList ++ [c]).length = A.size + 1 := by rw [List.length_append, Array.length_toList]; rfl
    rw [e, List.drop_left' hl, show A.size + 1 + t.size - (A.size + 1) = t.data.toList.length by rw [Array.length_toList]; show _ = t.size; omega]
    exact List.take_left
  have h2 := Array.toList_inj.1 h
  cases t
  cases hx : (A ++ ((⟨#[c]⟩ : ByteArray) ++ (_ ++ R))).extract (A.size + 1) (A.size + 1 + _)
  rw [hx] at h2
  exact congrArg ByteArray.mk h2
set_option maxHeartbeats 1000000 in
theorem piece_any (s : ByteArray) (at_ : Nat) (t : ByteArray) (w : World) (hat : at_ < s.size) (hb : s[at_].toNat = t.size) (he : at_ + 1 + t.size ≤ s.size) (hx : s.extract (at_ + 1) (at_ + 1 + t.size) = t) (hs : s.size ≤ 1000) :
    Calls Tryz.prog 117 #[.string s, .int .i64 at_] w fun e w' => e = .returned (.tuple #[.string t, .int .i64 ((at_ + 1 + t.size : Nat) : Int), .bool true]) ∧ w = w' := by
  have ht : t.size < 256 := by rw [← hb]; exact UInt8.toNat_lt _
  have e1 : ¬ ((s.size : Int) ≤ (at_ : Int)) := by omega
  have e2 : ¬ ((s.size : Int) < (at_ : Int) + 1 + (t.size : Int)) := by omega
  go_enter Tryz.func117, Tryz.ntmps117
  go_wp2
  go_ret3
  exact ⟨rfl, rfl⟩
/-- what stands about the k-th entry of a page -/
theorem packB_at {kind : Nat} {l : List Ent} (hf : Fine kind l) {k : Nat} (h : k < l.length) :
    (∃ h1 : 2 + lSum (l.take k) < (packB kind l).size, (packB kind l)[2 + lSum (l.take k)].toNat = l[k].1.size) ∧
    (packB kind l).extract (2 + lSum (l.take k) + 1) (2 + lSum (l.take k) + 1 + l[k].1.size) = l[k].1 ∧
    (∃ h1 : 2 + lSum (l.take k) + 1 + l[k].1.size < (packB kind l).size, (packB kind l)[2 + lSum (l.take k) + 1 + l[k].1.size].toNat = l[k].2.size) ∧
    (packB kind l).extract (2 + lSum (l.take k) + 1 + l[k].1.size + 1) (2 + lSum (l.take k) + 1 + l[k].1.size + 1 + l[k].2.size) = l[k].2 ∧
    2 + lSum (l.take k) + 1 + l[k].1.size + 1 + l[k].2.size = 2 + lSum (l.take (k + 1)) ∧ 2 + lSum (l.take (k + 1)) ≤ 256 := by
  obtain ⟨post, hp⟩ := packB_split kind l h
  obtain ⟨i1, i2⟩ := hf.all _ (List.getElem_mem h)
  have hA : ((⟨#[UInt8.ofNat kind, UInt8.ofNat l.length]⟩ : ByteArray) ++ recsB (l.take k)).size = 2 + lSum (l.take k) := by rw [ByteArray.size_append, recsB_size]; rfl
  have hsz := packB_size (kind := kind) hf.size
  have hsum := lSum_succ l h
  have hle := lSum_take_le l (k + 1)
  have h256 := hf.size
  unfold lSize at h256
  unfold recB at hp
  generalize hAA : (⟨#[UInt8.ofNat kind, UInt8.ofNat l.length]⟩ : ByteArray) ++ recsB (l.take k) = A at *
  have e1 : packB kind l = A ++ (⟨#[UInt8.ofNat l[k].1.size]⟩ ++ (l[k].1 ++ (⟨#[UInt8.ofNat l[k].2.size]⟩ ++ (l[k].2 ++ post)))) := by rw [hp]; simp only [ByteArray.append_assoc]
  have e2 : packB kind l = (A ++ ⟨#[UInt8.ofNat l[k].1.size]⟩ ++ l[k].1) ++ (⟨#[UInt8.ofNat l[k].2.size]⟩ ++ (l[k].2 ++ post)) := by rw [hp]; simp only [ByteArray.append_assoc]
  have hB : (A ++ (⟨#[UInt8.ofNat l[k].1.size]⟩ : ByteArray) ++ l[k].1).size = A.size + 1 + l[k].1.size := by rw [ByteArray.size_append, ByteArray.size_append]; rfl
  rw [← hA]
  refine ⟨⟨by omega, ?_⟩, ?_, ⟨by omega, ?_⟩, ?_, by omega, by omega⟩
  · have := ba_mid A (l[k].1 ++ (⟨#[UInt8.ofNat l[k].2.size]⟩ ++ (l[k].2 ++ post))) (UInt8.ofNat l[k].1.size) (by rw [← e1]; omega)
    simp only [e1, this]
    simp
    omega
  · rw [e1]; exact ba_ext _ _ _ _
  · have := ba_mid (A ++ ⟨#[UInt8.ofNat l[k].1.size]⟩ ++ l[k].1) (l[k].2 ++ post) (UInt8.ofNat l[k].2.size) (by rw [← e2]; omega)
    simp only [hB] at this
    simp only [e2, this]
    simp
    omega
  · rw [e2, ← hB]; exact ba_ext _ _ _ _
theorem packB_01 {kind : Nat} {l : List Ent} (hf : Fine kind l) : (∃ h : 0 < (packB kind l).size, (packB kind l)[0].toNat = kind) ∧ (∃ h : 1 < (packB kind l).size, (packB kind l)[1].toNat = l.length) := by
  have hsz := packB_size (kind := kind) hf.size
  have hlen := hf.len
  have hk := hf.kind
  have e1 : packB kind l = (⟨#[]⟩ : ByteArray) ++ (⟨#[UInt8.ofNat kind]⟩ ++ (⟨#[UInt8.ofNat l.length]⟩ ++ (recsB l ++ zerosB (256 - (rawB kind l).size)))) := by
    unfold packB padB
    generalize 256 - (rawB kind l).size = z
    unfold rawB
    rw [show (⟨#[UInt8.ofNat kind, UInt8.ofNat l.length]⟩ : ByteArray) = (⟨#[]⟩ : ByteArray) ++ (⟨#[UInt8.ofNat kind]⟩ ++ ⟨#[UInt8.ofNat l.length]⟩) by rfl]
    simp only [ByteArray.append_assoc]
  have e2 : packB kind l = (⟨#[UInt8.ofNat kind]⟩ : ByteArray) ++ (⟨#[UInt8.ofNat l.length]⟩ ++ (recsB l ++ zerosB (256 - (rawB kind l).size))) := by
    rw [e1]; exact ByteArray.empty_append
  refine ⟨⟨by omega, ?_⟩, ⟨by omega, ?_⟩⟩
  · have := ba_mid (⟨#[]⟩ : ByteArray) (⟨#[UInt8.ofNat l.length]⟩ ++ (recsB l ++ zerosB (256 - (rawB kind l).size))) (UInt8.ofNat kind) (by rw [← e1]; show 0 < _; omega)
    change (_ : ByteArray)[0]'_ = _ at this
    simp only [e1, this]
    simp
    omega
  · have := ba_mid (⟨#[UInt8.ofNat kind]⟩ : ByteArray) (recsB l ++ zerosB (256 - (rawB kind l).size)) (UInt8.ofNat l.length) (by rw [← e2]; show 1 < _; omega)
    change (_ : ByteArray)[1]'_ = _ at this
    simp only [e2, this]
    simp
    omega
set_option maxHeartbeats 4000000 in
set_option maxRecDepth 100000 in
theorem unpack_any (w : World) (kind : Nat) (l : List Ent) (hf : Fine kind l) :
    Calls Tryz.prog 74 #[.string (packB kind l)] w fun e w' => ∃ v, e = .returned (.tuple #[.int .i64 kind, v, .int .i64 0]) ∧ EOwn w' w.heap.size v l ∧ Below w.heap.size w w' := by
  have hlen := hf.len
  have hw64 : wrap64 (kind : Int) = kind := IntWalk.wrap64_in _ (by rcases hf.kind with h | h <;> omega)
  have hw65 : IntKind.i64.wrap (kind : Int) = kind := IntWalk.i64_in _ (by rcases hf.kind with h | h <;> omega)
  have hsz := packB_size (kind := kind) hf.size
  obtain ⟨⟨z0, hz0⟩, ⟨z1, hz1⟩⟩ := packB_01 hf
  have HPC : Hid (∀ k (hk : k < l.length) (W : World), Calls Tryz.prog 117 #[.string (packB kind l), .int .i64 ((2 + lSum (l.take k) : Nat) : Int)] W (fun e w' => e = .returned (.tuple #[.string (l[k]'hk).1, .int .i64 ((2 + lSum (l.take k) + 1 + (l[k]'hk).1.size : Nat) : Int), .bool true]) ∧ W = w') ∧
      Calls Tryz.prog 117 #[.string (packB kind l), .int .i64 ((2 + lSum (l.take k) + 1 + (l[k]'hk).1.size : Nat) : Int)] W (fun e w' => e = .returned (.tuple #[.string (l[k]'hk).2, .int .i64 ((2 + lSum (l.take (k + 1)) : Nat) : Int), .bool true]) ∧ W = w')) := fun k hk W => by
    obtain ⟨⟨a1, a2⟩, b, ⟨c1, c2⟩, d, e1, e2⟩ := packB_at hf hk
    have r := piece_any (packB kind l) _ _ W c1 c2 (by rw [e1, hsz]; exact e2) d (by omega)
    rw [e1] at r
    exact ⟨piece_any (packB kind l) _ _ W a1 a2 (by omega) b (by omega), r⟩
  have HPK : Hid (∀ W ao c, Below w.heap.size w W → ERow W ao l → Calls Tryz.prog 70 #[.int .i64 kind, .slice ao l.length c] W fun e w' => e = .returned (.tuple #[.string (packB kind l), .int .i64 0]) ∧ Below W.heap.size W w') := fun W ao c hB hr => pack_any W ao c kind l hr hf
  have HTK : Hid (∀ k (hk : k < l.length), l.take (k + 1) = l.take k ++ [(l[k]'hk)]) := fun k hk => List.take_succ_eq_append_getElem hk
  have HP0 : Hid (2 + lSum (l.take 0) = 2) := by show _ = _; rfl
  have HTA : Hid (l.take l.length = l) := by show _ = _; rw [List.take_length]
  clear hf
  generalize packB kind l = s at *
  obtain ⟨pos, hpos⟩ : ∃ pos : Nat → Nat, ∀ k, 2 + lSum (l.take k) = pos k := ⟨_, fun _ => rfl⟩
  simp only [hpos] at HPC HP0
  clear hpos
  obtain ⟨m, HM⟩ : ∃ m, Hid (l.length = m) := ⟨_, Lib.hid rfl⟩
  rw [HM.out] at hz1 HPK hlen HTA
  have hnz : ¬ ((s.size : Int) ≠ 256) := by omega
  go_enter Tryz.func74, Tryz.ntmps74
  go_wp2
  go_loopw [5, 6, 19] (fun vo va vc wr => ∃ (k p : Nat) (ao : Option Addr) (co : Nat), vo = .slice ao k co ∧ va = .int .i64 p ∧ vc = .int .u8 k ∧ k ≤ m ∧ Hid (pos k = p) ∧ Hid (EOwn wr w.heap.size (.slice ao k co) (l.take k)) ∧ Hid (Below w.heap.size w wr)) (fun _ _ vc _ => m - (intOf vc).toNat)
  case atStart => exact ⟨0, 2, none, 0, rfl, rfl, rfl, by omega, HP0, EOwn.nil _ _, Below.refl _ _⟩
  case round =>
    obtain ⟨k, p, ao, co, rfl, rfl, rfl, hk, HPS, HO, HB⟩ := hrel
    by_cases hlt : k < m
    · have hlt' : k < l.length := by rw [HM.out]; exact hlt
      obtain ⟨q1, q2⟩ := HPC.out k hlt' wr
      have htk := HTK.out k hlt'
      rw [HPS.out] at q1 q2
      push_cast at q1 q2
      have hB1 : Below wr.heap.size wr (wr.alloc (boxE l[k].1 l[k].2)) := (Below.refl _ wr).alloc (Nat.le_refl _) _
      have hbox : EBox (wr.alloc (boxE l[k].1 l[k].2)) wr.heap.size (l[k].1, l[k].2) := heap_alloc_new' wr _
      have hlk : (l.take k).length = k := by rw [List.length_take]; omega
      obtain ⟨a2, c2, w3, hr, ho, hg, -⟩ := ent_append (wr.alloc (boxE l[k].1 l[k].2)) w.heap.size (.slice ao k co) (l.take k) [l[k]] 1 (some ⟨wr.heap.size, 0, none⟩) (by have := HO.out.made hB1; exact this) hbox.row (.inr ⟨_, _, rfl⟩) (by rw [hlk]; simp; omega) (by have := HB.out.size; simp; omega)
      rw [hlk, ← htk] at ho
      rw [hlk] at hr
      have HO3 : Hid (EOwn w3 w.heap.size (.slice a2 (k + 1) c2) (l.take (k + 1))) := ho
      have HB3 : Hid (Below w.heap.size w w3) := (HB.out.trans (hB1.mono HB.out.size)).trans (grown_below hg (fun b hb => by
        have := HO.out.lt b (by simpa [Value.ownBlock] using hb); exact this.1) (by have := HB.out.size; simp; omega))
      have hu : IntKind.u8.wrap ((k : Int) + 1) = (k : Int) + 1 := wraps_u8 _ (by omega) (by omega)
      simp only [List.length_cons, List.length_nil, Nat.zero_add] at hr
      clear ho hg hB1 hbox HPC HPK HTK htk HO hlk
      generalize l[k].1 = x at *
      generalize l[k].2 = y at *
      go_wp2_with fail
      refine q1.mono ?_
      rintro e w' ⟨rfl, rfl⟩
      go_wp2_with fail
      refine q2.mono ?_
      rintro e w' ⟨rfl, rfl⟩
      clear q1 q2
      go_wp2_with (at_builtin; refine wpList_append_run hr rfl rfl rfl rfl rfl ?_)
      go_roundw
      case rel => exact ⟨k + 1, pos (k + 1), a2, c2, rfl, rfl, by go_num, by omega, Lib.hid rfl, HO3, HB3⟩
      case measure => simp [intOf]; omega
    · obtain rfl : k = m := by omega
      rw [HTA.out] at HO
      have hO := HO.out
      obtain ⟨ao', c', e, hr, -⟩ := HO.out.parts
      simp at e
      obtain ⟨rfl, -, rfl⟩ := e
      have hpk := HPK.out wr ao co HB.out hr
      have HFIN : Hid (∀ W, Below wr.heap.size wr W → EOwn W w.heap.size (.slice ao k co) l ∧ Below w.heap.size w W) := fun W hB => ⟨HO.out.made hB, HB.out.trans (hB.mono HB.out.size)⟩
      clear hr HO hO HPC HPK HTK
      go_wp2_with (go_at_call 70; refine hpk.mono ?_; rintro e w2 ⟨rfl, hB2⟩)
      go_ret3
      exact ⟨_, rfl, (HFIN.out _ hB2).1, (HFIN.out _ hB2).2⟩
end
/-! TName -/
section
set_option linter.unusedSimpArgs false
set_option linter.unusedVariables false
open Go.RowKit Go.Maps Go.Shelf

def nmB (n : Nat) : ByteArray := putB n 2
def pgN (v : ByteArray) : Nat := getN v 0 2
theorem byteN_put (n k p : Nat) (h : p < k) : byteN (putB n k) p = n / 2 ^ (8 * (k - 1 - p)) % 256 := by
  unfold byteN putB
  simp [List.getD_eq_getElem?_getD, List.getElem?_range h]
theorem pgN_nm {n : Nat} (h : n < 65536) : pgN (nmB n) = n := by
  unfold pgN nmB
  rw [getN_succ, getN_succ]
  simp only [getN, List.range_zero, List.foldl_nil]
  rw [byteN_put n 2 _ (by omega), byteN_put n 2 _ (by omega)]
  omega
theorem nmB_size (n : Nat) : (nmB n).size = 2 := putB_size n 2
set_option maxHeartbeats 1000000 in
theorem name_any (n : Nat) (w : World) (hn : n < 65536) :
    Calls Tryz.prog 88 #[.int .i64 n] w fun e w' => e = .returned (.string (nmB n)) ∧ Below w.heap.size w w' := by
  have hP := put_any n 2 w (by omega) (by omega) (by omega)
  have hu : IntKind.u64.wrap (n : Int) = n := wraps_u64 _ (by omega) (by omega)
  have HM : Hid (∀ W, Calls Tryz.prog 44 #[.int .i64 0] W fun e w' => e = .returned (.tuple #[]) ∧ W = w') := fun W => must_ok W
  unfold nmB
  generalize putB n 2 = s at *
  go_enter Tryz.func88, Tryz.ntmps88
  go_wp2_with fail
  refine hP.mono ?_
  rintro e w1 ⟨rfl, hB⟩
  have hm := HM.out w1
  go_wp2_with (go_at_call 44; refine hm.mono ?_; rintro e w' ⟨rfl, rfl⟩)
  go_ret
  exact ⟨rfl, hB⟩
set_option maxHeartbeats 1000000 in
theorem page_of (k v : ByteArray) (w : World) (hv : 2 ≤ v.size) (hv2 : v.size ≤ 1000) :
    Calls Tryz.prog 41 #[.agg #[.string k, .string v]] w fun e w' => e = .returned (.int .i64 (pgN v : Nat)) ∧ Below w.heap.size w w' := by
  have HG : Hid (∀ W, Calls Tryz.prog 77 #[.string v, .int .i64 0, .int .i64 2] W fun e w' => e = .returned (.tuple #[.int .u64 (pgN v : Nat), .int .i64 0]) ∧ W = w') := fun W => get_any v 0 2 W (by omega) (by omega) (by omega) (by omega)
  have hlt : pgN v < 65536 := getN_lt v 0 2
  have hu : wrap64 (pgN v : Int) = pgN v := IntWalk.wrap64_in _ (by omega)
  have hu2 : IntKind.i64.wrap (pgN v : Int) = pgN v := IntWalk.i64_in _ (by omega)
  have HM : Hid (∀ W, Calls Tryz.prog 44 #[.int .i64 0] W fun e w' => e = .returned (.tuple #[]) ∧ W = w') := fun W => must_ok W
  generalize pgN v = n at *
  have hB1 : Below w.heap.size w (w.alloc (.cells #[.string k, .string v] 59)) := (Below.refl _ w).alloc (Nat.le_refl _) _
  have hg := HG.out (w.alloc (.cells #[.string k, .string v] 59))
  have hm := HM.out (w.alloc (.cells #[.string k, .string v] 59))
  go_enter Tryz.func41, Tryz.ntmps41
  go_wp2_with fail
  refine hg.mono ?_
  rintro e w1 ⟨rfl, rfl⟩
  go_wp2_with (go_at_call 44; refine hm.mono ?_; rintro e w' ⟨rfl, rfl⟩)
  go_ret
  exact ⟨rfl, hB1⟩
end
/-! TCut -/
section
set_option linter.unusedSimpArgs false
set_option linter.unusedVariables false
open Go.RowKit Go.Maps Go.Shelf

def cutStep (l : List Ent) (st : Nat × Int) (i : Nat) : Nat × Int :=
  if st.2 < 0 ∨ max (lSum (l.take i) : Int) ((lSum l : Int) - lSum (l.take i)) < st.2 then (i, max (lSum (l.take i) : Int) ((lSum l : Int) - lSum (l.take i))) else st
def cutTo (l : List Ent) : Nat → Nat × Int
  | 0 => (1, -1)
  | k + 1 => cutStep l (cutTo l k) (k + 1)
/-- how many stand on the left side -/
def lCut (l : List Ent) : Nat := (cutTo l (l.length - 1)).1
theorem cutTo_bd (l : List Ent) : ∀ k, 1 ≤ (cutTo l k).1 ∧ (cutTo l k).1 ≤ max 1 k ∧ -1 ≤ (cutTo l k).2 ∧ (cutTo l k).2 ≤ lSum l
  | 0 => by simp [cutTo]
  | k + 1 => by
    obtain ⟨a, b, c, d⟩ := cutTo_bd l k
    have := lSum_take_le l (k + 1)
    unfold cutTo cutStep
    split <;> simp <;> omega
theorem lCut_bd {l : List Ent} (h : 2 ≤ l.length) : 1 ≤ lCut l ∧ lCut l < l.length := by
  have := cutTo_bd l (l.length - 1)
  unfold lCut
  omega
set_option maxHeartbeats 4000000 in
set_option maxRecDepth 100000 in
theorem lcut_any (w : World) (ao : Option Addr) (c : Nat) (l : List Ent) (hl : ERow w ao l) (hc : l.length ≤ c) (h2 : 2 ≤ l.length) (hn : lSum l ≤ 100000) :
    Calls Tryz.prog 89 #[.slice ao l.length c] w fun e w' => ∃ v1 v2, e = .returned (.tuple #[v1, v2]) ∧ EOwn w' w.heap.size v1 (l.take (lCut l)) ∧ EOwn w' w.heap.size v2 (l.drop (lCut l)) ∧ Below w.heap.size w w' := by
  obtain ⟨g, off, rfl, -, -⟩ := hl.at (i := 0) (by omega)
  have hll := lSum_len l
  obtain ⟨cb1, cb2⟩ := lCut_bd h2
  have HSZ : Hid (∀ W, Below w.heap.size w W → ∀ k (hk : k < l.length) cc, Calls Tryz.prog 87 #[.slice (some ⟨g, off + k * 2, none⟩) 1 cc] W fun e w' => e = .returned (.int .i64 ((lSum (l.take (k + 1)) - lSum (l.take k) + 2 : Nat) : Int)) ∧ Below w.heap.size w w') := fun W hB k hk cc => by
    have hr : ERow W (some ⟨g, off + k * 2, none⟩) [l[k]] := by
      have := ((hl.made hB).drop k).take 1
      rw [List.drop_eq_getElem_cons hk] at this
      exact this
    have hs := lSum_succ l hk
    have hle := lSum_take_le l (k + 1)
    have e : lSize [l[k]] = lSum (l.take (k + 1)) - lSum (l.take k) + 2 := by unfold lSize; simp [lSum] at hs ⊢; omega
    rw [← e]
    refine (lsize_any W _ cc [l[k]] hr (by rw [e]; omega)).mono ?_
    rintro e w' ⟨he, hB'⟩
    exact ⟨he, hB.trans (hB'.mono hB.size)⟩
  have HSA : Hid (∀ W, Below w.heap.size w W → Calls Tryz.prog 87 #[.slice (some ⟨g, off, none⟩) l.length c] W fun e w' => e = .returned (.int .i64 ((lSum l + 2 : Nat) : Int)) ∧ Below w.heap.size w w') := fun W hB => by
    have e : lSize l = lSum l + 2 := by unfold lSize; omega
    rw [← e]
    exact (lsize_any W _ c l (hl.made hB) (by omega)).mono fun _ _ ⟨a, b⟩ => ⟨a, hB.trans (b.mono hB.size)⟩
  have HC1 : Hid (∀ W, Below w.heap.size w W → Calls Tryz.prog 80 #[.slice (some ⟨g, off, none⟩) (lCut l) c] W fun e w' => ∃ v, e = .returned v ∧ EOwn w' w.heap.size v (l.take (lCut l)) ∧ Below w.heap.size w w') := fun W hB => by
    have := clone_any W (some ⟨g, off, none⟩) c (l.take (lCut l)) ((hl.made hB).take _) (fun a e => ⟨g, off, by simpa using e.symm⟩) (fun e => by cases e) (by rw [List.length_take]; omega)
    rw [List.length_take, Nat.min_eq_left (by omega)] at this
    exact this.mono fun e w' ⟨v, he, ho, hb⟩ => ⟨v, he, ho.base hB.size, hB.trans (hb.mono hB.size)⟩
  have HC2 : Hid (∀ W v1, Below w.heap.size w W → EOwn W w.heap.size v1 (l.take (lCut l)) → Calls Tryz.prog 80 #[.slice (some ⟨g, off + lCut l * 2, none⟩) (l.length - lCut l) (c - lCut l)] W fun e w' => ∃ v, e = .returned v ∧ EOwn w' w.heap.size v (l.drop (lCut l)) ∧ EOwn w' w.heap.size v1 (l.take (lCut l)) ∧ Below w.heap.size w w') := fun W v1 hB ho1 => by
    have := clone_any W (some ⟨g, off + lCut l * 2, none⟩) (c - lCut l) (l.drop (lCut l)) ((hl.made hB).drop _) (fun a e => ⟨g, off + lCut l * 2, by simpa using e.symm⟩) (fun e => by cases e) (by rw [List.length_drop]; omega)
    rw [List.length_drop] at this
    exact this.mono fun e w' ⟨v, he, ho, hb⟩ => ⟨v, he, ho.base hB.size, ho1.made hb, hB.trans (hb.mono hB.size)⟩
  have HST : Hid (∀ k, k + 1 < l.length → cutTo l (k + 1) = cutStep l (cutTo l k) (k + 1)) := fun k _ => rfl
  have HBD : Hid (∀ k, -1 ≤ (cutTo l k).2 ∧ (cutTo l k).2 ≤ lSum l ∧ (cutTo l k).1 ≤ max 1 k) := fun k => ⟨(cutTo_bd l k).2.2.1, (cutTo_bd l k).2.2.2, (cutTo_bd l k).2.1⟩
  have HMO : Hid (∀ k, k < l.length → lSum (l.take k) ≤ lSum (l.take (k + 1)) ∧ lSum (l.take (k + 1)) ≤ lSum l) := fun k hk => by
    have h1 := lSum_succ l hk
    have h2 := lSum_take_le l (k + 1)
    omega
  have H00 : Hid (lSum (l.take 0) = 0) := by show _ = _; simp [lSum]
  have HCT0 : Hid (cutTo l 0 = (1, -1)) := rfl
  have HLC : Hid ((cutTo l (l.length - 1)).1 = lCut l) := rfl
  clear hl
  unfold cutStep at HST
  obtain ⟨m, HM⟩ : ∃ m, Hid (l.length = m + 2) := ⟨l.length - 2, Lib.hid (by omega)⟩
  rw [HM.out] at h2 hll cb2 hc HSZ HSA HC2 HST HLC HMO ⊢
  generalize l.take (lCut l) = lt at *
  generalize l.drop (lCut l) = ld at *
  generalize lCut l = cut at *
  generalize lSum l = all at *
  generalize cutTo l = ct at *
  obtain ⟨sm, hsm⟩ : ∃ sm : Nat → Nat, ∀ k, lSum (l.take k) = sm k := ⟨_, fun _ => rfl⟩
  simp only [hsm] at HSZ HST HMO H00
  clear hsm HM h2
  go_enter Tryz.func89, Tryz.ntmps89
  go_wp2_with fail
  refine (HSA.out w (Below.refl _ _)).mono ?_
  rintro e w1 ⟨rfl, hB1⟩
  go_wp2_with fail
  go_loopw [4, 5, 6, 8] (fun vb vl vs vi wr => ∃ (k b s : Nat) (le : Int), vb = .int .i64 b ∧ vl = .int .i64 le ∧ vs = .int .i64 s ∧ vi = .int .i64 ((k : Int) + 1) ∧ k ≤ m + 1 ∧ Hid (ct k = (b, le)) ∧ Hid (sm k = s) ∧ Hid (Below w.heap.size w wr)) (fun _ _ _ vi _ => m + 3 - (intOf vi).toNat)
  case atStart => exact ⟨0, 1, 0, -1, rfl, rfl, rfl, rfl, by omega, HCT0, H00, hB1⟩
  case round =>
    obtain ⟨k, b, s, le, rfl, rfl, rfl, rfl, hk, HCT, HSM, HB⟩ := hrel
    by_cases hlt : k < m + 1
    · have hs := HSZ.out wr HB.out k (by omega) (c - k)
      obtain ⟨hm1, hm2⟩ := HMO.out k (by omega)
      have hst := HST.out k (by omega)
      obtain ⟨hb1, hb2, -⟩ := HBD.out k
      rw [HCT.out] at hst hb1 hb2
      rw [HSM.out] at hs hm1
      obtain ⟨d, hd⟩ : ∃ d, sm (k + 1) = s + d := ⟨sm (k + 1) - s, by omega⟩
      rw [hd] at hs hst hm2
      rw [show ((s + d - s + 2 : Nat) : Int) = (d : Int) + 2 by omega] at hs
      have HSM' := Lib.hid hd
      obtain ⟨M, hM⟩ : ∃ M : Int, max ((s : Int) + (d : Int)) ((all : Int) - ((s : Int) + (d : Int))) = M := ⟨_, rfl⟩
      push_cast at hst
      simp only [hM] at hst
      have HST' := Lib.hid hst
      have hMb : 0 ≤ M ∧ M ≤ 100000 := by omega
      clear hst hd hm1 HSZ HSA HC1 HC2 HST HMO H00 HLC HCT HSM HCT0 HBD
      simp only at hb1 hb2
      have e1 : ¬ c = k := by omega
      have e2 : k + 1 ≤ c := by omega
      have e3 : (k : Int) + 1 ≤ (c : Int) := by omega
      have e4 : (k : Int) + 1 < (m : Int) + 2 := by omega
      by_cases hl0 : le < 0
      · have HR : Hid (ct (k + 1) = (k + 1, M)) := by
          show _ = _
          rw [HST'.out, if_pos (.inl hl0)]
        go_wp2_with (go_at_call 87; refine hs.mono ?_; rintro e w2 ⟨rfl, hB2⟩)
        go_roundw
        case rel => exact ⟨k + 1, k + 1, s + d, M, by go_num, rfl, by go_num, by go_num, by omega, HR, HSM', hB2⟩
        case measure => simp [intOf]; omega
      · by_cases hml : M < le
        · have HR : Hid (ct (k + 1) = (k + 1, M)) := by
            show _ = _
            rw [HST'.out, if_pos (.inr hml)]
          go_wp2_with (go_at_call 87; refine hs.mono ?_; rintro e w2 ⟨rfl, hB2⟩)
          go_roundw
          case rel => exact ⟨k + 1, k + 1, s + d, M, by go_num, rfl, by go_num, by go_num, by omega, HR, HSM', hB2⟩
          case measure => simp [intOf]; omega
        · have HR : Hid (ct (k + 1) = (b, le)) := by
            show _ = _
            rw [HST'.out, if_neg (by omega)]
          go_wp2_with (go_at_call 87; refine hs.mono ?_; rintro e w2 ⟨rfl, hB2⟩)
          go_roundw
          case rel => exact ⟨k + 1, b, s + d, le, rfl, rfl, by go_num, by go_num, by omega, HR, HSM', hB2⟩
          case measure => simp [intOf]; omega
    · obtain rfl : k = m + 1 := by omega
      have hbc : b = cut := by
        have h1 := HLC.out
        have h2 := HCT.out
        rw [show m + 2 - 1 = m + 1 by omega, h2] at h1
        exact h1
      subst hbc
      have HBW := Lib.hid (HB.out.drew)
      have hc1 := HC1.out _ HBW.out
      clear HSZ HSA HC1 HST HMO H00 HLC HCT HSM HCT0 HBD HB
      have e1 : ¬ c = b := by omega
      have e2 : b ≤ c := by omega
      have e3 : b ≤ m + 2 := by omega
      have e5 : (b : Int) ≤ (m : Int) + 2 := by omega
      have e4 : ¬ ((m : Int) + 1 + 1 < (m : Int) + 2) := by omega
      go_upto_region 12 with fail
      go_region_law (first
        | (go_simp; go_at_call 80; refine hc2.mono ?_; rintro e w4 ⟨v2, rfl, ho2, ho1', hB4⟩)
        | (go_simp; go_at_call 80; refine hc1.mono ?_; rintro e w3 ⟨v1, rfl, ho1, hB3⟩
           have hc2 := HC2.out w3 v1 hB3 ho1))
      all_goals
        go_wp2
        go_ret2
        exact ⟨_, _, rfl, ho1', ho2, hB4⟩
end
end Go.Proofs.YtmgcaohpbaiiaaaGreatDoor
