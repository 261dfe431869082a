/- tree.child; leaf.Put, Take. -/
import Derived.Test.YtmgcaohpbaiiaaaGreatDoorTFind
import Derived.Test.YtmgcaohpbaiiaaaGreatDoorTRepl2
set_option linter.unusedSimpArgs false
set_option linter.unusedVariables false
namespace Go.Proofs.YtmgcaohpbaiiaaaGreatDoor
open Go.RowKit Go.Maps Go.Shelf

/-- the place of the entry below which a key lies -/
def cIx (l : List Ent) (key : ByteArray) : Nat := if lHas l key then lIx l key else lIx l key - 1
def lPut (l : List Ent) (key value : ByteArray) : List Ent := if lHas l key then repL l (lIx l key) [(key, value)] else insL l (lIx l key) [(key, value)]
def lTake (l : List Ent) (key : ByteArray) : List Ent := if lHas l key then l.take (lIx l key) ++ l.drop (lIx l key + 1) else l
theorem lHas_at {l : List Ent} {key : ByteArray} (h : lHas l key = true) : ∃ hi : lIx l key < l.length, (l[lIx l key]'hi).1 = key := by
  unfold lHas at h
  by_cases hi : lIx l key < l.length
  · rw [List.getElem?_eq_getElem hi] at h
    exact ⟨hi, by simpa using h⟩
  · rw [List.getElem?_eq_none (by omega)] at h; cases h
set_option maxHeartbeats 1000000 in
theorem child_any (w : World) (ao : Option Addr) (c : Nat) (l : List Ent) (key : ByteArray) (hl : ERow w ao l) (hs : ascB l = true) (hn : l.length ≤ 1000000) :
    Calls Tryz.prog 42 #[.slice ao l.length c, .string key] w fun e w' => e = .returned (.int .i64 (cIx l key : Nat)) ∧ Below w.heap.size w w' := by
  have hF := find_any w ao c l key hl hs hn
  have hix := lIx_le l key
  unfold cIx
  clear hl hs
  generalize lIx l key = ix at *
  generalize l.length = n at *
  cases hb : lHas l key with
  | true =>
    rw [hb] at hF
    simp only [if_true]
    clear hb
    have e1 : ¬ ((ix : Int) < 0) := by omega
    have e2 : max (ix : Int) 0 = ix := by omega
    go_enter Tryz.func42, Tryz.ntmps42
    go_wp2_with (go_at_call 40; refine hF.mono ?_; rintro e w' ⟨rfl, hB⟩)
    go_ret
    exact ⟨rfl, hB⟩
  | false =>
    rw [hb] at hF
    simp only [if_false, Bool.false_eq_true]
    clear hb
    have e2 : max ((ix : Int) - 1) 0 = ((ix - 1 : Nat) : Int) := by omega
    go_enter Tryz.func42, Tryz.ntmps42
    go_wp2_with (go_at_call 40; refine hF.mono ?_; rintro e w' ⟨rfl, hB⟩)
    go_ret
    exact ⟨by rw [← e2]; rfl, hB⟩
theorem entCells_cons (q : Ent) (l : List Ent) : entCells (q :: l) = .string q.1 :: .string q.2 :: entCells l := by simp [entCells]
theorem entCells_rep (l : List Ent) {i : Nat} (h : i < l.length) (x : ByteArray) : entCells (repL l i [(l[i].1, x)]) = (entCells l).set (i * 2 + 1) (.string x) := by
  have e1 : entCells l = entCells (l.take i) ++ (.string l[i].1 :: .string l[i].2 :: entCells (l.drop (i + 1))) := by
    conv => lhs; rw [← List.take_append_drop i l, List.drop_eq_getElem_cons h, entCells_append, entCells_cons]
  have e2 : (entCells (l.take i)).length = i * 2 := by rw [entCells_len, List.length_take]; omega
  rw [e1, List.set_append_right _ _ (by omega), e2]
  unfold repL
  rw [entCells_append, entCells_append, show i * 2 + 1 - i * 2 = 1 by omega]
  simp [entCells]
theorem repL_length (l : List Ent) {i : Nat} (h : i < l.length) (q : Ent) : (repL l i [q]).length = l.length := by simp [repL]; omega
theorem EOwn.setVal {w : World} {B g n c : Nat} {l : List Ent} (h : EOwn w B (.slice (some ⟨g, 0, none⟩) n c) l) {i : Nat} (hi : i < l.length) (x : ByteArray) :
    EOwn (w.setCell ⟨g, i * 2 + 1, none⟩ (.string x)) B (.slice (some ⟨g, 0, none⟩) n c) (repL l i [(l[i].1, x)]) := by
  obtain ⟨g', cur, e, rfl, hbg, hg, hlc, hcm, hcs, hct⟩ := h.block
  simp at e
  subst e
  have hg2 := heap_setCell_same hg (i * 2 + 1) (.string x)
  have := EOwn.of_block (B := B) (l := repL l i [(l[i].1, x)]) hg2 hbg (cap := c) (by rw [repL_length l hi]; exact hlc) hcm (by simp [hcs]) (by
    rw [repL_length l hi, entCells_rep l hi, ← hct]
    simp only [Array.toList_setIfInBounds]
    exact List.take_set ..)
  rw [repL_length l hi] at this
  exact this
set_option maxHeartbeats 2000000 in
set_option maxRecDepth 100000 in
theorem lput_any (w : World) (ao : Option Addr) (c : Nat) (l : List Ent) (key value : ByteArray) (hl : ERow w ao l) (hat : ∀ a, ao = some a → ∃ g off, a = ⟨g, off, none⟩) (hnil : ao = none → l = [] ∧ c = 0) (hs : ascB l = true) (hn : l.length ≤ 10000) :
    Calls Tryz.prog 85 #[.slice ao l.length c, .string key, .string value] w fun e w' => ∃ v, e = .returned v ∧ EOwn w' w.heap.size v (lPut l key value) ∧ Below w.heap.size w w' := by
  have hF := find_any w ao c l key hl hs (by omega)
  have HCl : Hid (∀ W, Below w.heap.size w W → Calls Tryz.prog 80 #[.slice ao l.length c] W fun e w' => ∃ v, e = .returned v ∧ EOwn w' w.heap.size v l ∧ Below w.heap.size w w') := fun W hB =>
    (clone_any W ao c l (hl.made hB) hat hnil (by omega)).mono fun e w' ⟨v, he, ho, hb⟩ => ⟨v, he, ho.base hB.size, hB.trans (hb.mono hB.size)⟩
  have hix := lIx_le l key
  cases hb : lHas l key with
  | true =>
    obtain ⟨hi, hk⟩ := lHas_at hb
    have HR : Hid (∀ W v, EOwn W w.heap.size v l → Below w.heap.size w W → ∃ g cc, v = .slice (some ⟨g, 0, none⟩) l.length cc ∧ (W.cell? ⟨g, lIx l key * 2 + 1, none⟩).isSome = true ∧ W.frozen? ⟨g, lIx l key * 2 + 1, none⟩ = false ∧ W.cell? ⟨g, lIx l key * 2 + 1, none⟩ = some (.string (l[lIx l key]'hi).2) ∧
        EOwn (W.setCell ⟨g, lIx l key * 2 + 1, none⟩ (.string value)) w.heap.size v (lPut l key value) ∧ Below w.heap.size w (W.setCell ⟨g, lIx l key * 2 + 1, none⟩ (.string value))) := fun W v ho hB => by
      obtain ⟨a2, c2, rfl, hr, -⟩ := ho.parts
      obtain ⟨g, off, rfl, c0, c1⟩ := hr.at hi
      obtain ⟨g', cur, e, -, hbg, hg, -⟩ := ho.block
      simp at e
      obtain ⟨rfl, rfl⟩ := e
      rw [Nat.zero_add] at c1
      refine ⟨g, c2, rfl, by rw [c1]; rfl, frozen_of hg _, c1, ?_, hB.setCell hbg _⟩
      have := ho.setVal hi value
      rw [hk] at this
      unfold lPut
      rw [hb]
      exact this
    rw [hb] at hF
    clear hl hat hnil hs hk hb
    generalize lPut l key value = out at *
    generalize (l[lIx l key]'hi).2 = old at *
    generalize lIx l key = ix at *
    obtain ⟨n, HN⟩ : ∃ n, Hid (l.length = n) := ⟨_, Lib.hid rfl⟩
    rw [HN.out] at hF HCl hi hix hn ⊢
    have HR2 : Hid (∀ W v, EOwn W w.heap.size v l → Below w.heap.size w W → ∃ g cc, v = .slice (some ⟨g, 0, none⟩) n cc ∧ W.frozen? ⟨g, ix * 2 + 1, none⟩ = false ∧ W.cell? ⟨g, ix * 2 + 1, none⟩ = some (.string old) ∧
        EOwn (W.setCell ⟨g, ix * 2 + 1, none⟩ (.string value)) w.heap.size v out ∧ Below w.heap.size w (W.setCell ⟨g, ix * 2 + 1, none⟩ (.string value))) := fun W v ho hB => by
      obtain ⟨g, cc, e, -, r⟩ := HR.out W v ho hB
      rw [HN.out] at e
      exact ⟨g, cc, e, r⟩
    clear HR HN
    have e1 : (ix : Int) < (n : Int) := by omega
    go_enter Tryz.func85, Tryz.ntmps85
    go_wp2_with (first
      | (go_at_call 40; refine hF.mono ?_; rintro e w' ⟨rfl, hB⟩)
      | (go_at_call 80; refine (HCl.out _ hB).mono ?_; rintro e w2 ⟨v, rfl, ho, hB2⟩
         obtain ⟨g, cc, rfl, f1, c1, ho2, hb2⟩ := HR2.out w2 v ho hB2
         have HO2 := Lib.hid ho2
         have HB3 := Lib.hid hb2))
    go_ret
    exact ⟨_, rfl, HO2.out, HB3.out⟩
  | false =>
    have HI : Hid (∀ W v vb, EOwn W w.heap.size v l → Below w.heap.size w W → W.heap.size = vb → Calls Tryz.prog 129 #[v, .int .i64 (lIx l key : Nat), .slice (some ⟨vb, 0, none⟩) 1 1] (W.alloc (.cells #[.string key, .string value] 59)) fun e w' => ∃ v', e = .returned v' ∧ EOwn w' w.heap.size v' (lPut l key value) ∧ Below w.heap.size w w') := fun W v vb ho hB e => by
      subst e
      have hB1 : Below W.heap.size W (W.alloc (.cells #[.string key, .string value] 59)) := (Below.refl _ _).alloc (Nat.le_refl _) _
      refine (insert_any (W.alloc (.cells #[.string key, .string value] 59)) w.heap.size v l (ho.made hB1) (by have := hB.size; simp; omega) (lIx l key) hix (key, value) W.heap.size (heap_alloc_new' W _) (fun e => ?_) (by omega)).mono ?_
      · have := (ho.lt _ e).2; omega
      · rintro e w' ⟨v', he, ho', hb'⟩
        refine ⟨v', he, ?_, hB.trans ((hB1.mono hB.size).trans hb')⟩
        unfold lPut
        rw [hb]
        exact ho'
    rw [hb] at hF
    clear hl hat hnil hs hb
    generalize lPut l key value = out at *
    generalize lIx l key = ix at *
    obtain ⟨n, HN⟩ : ∃ n, Hid (l.length = n) := ⟨_, Lib.hid rfl⟩
    rw [HN.out] at hF HCl hix hn ⊢
    clear HN
    go_enter Tryz.func85, Tryz.ntmps85
    go_wp2_with (first
      | (go_at_call 40; refine hF.mono ?_; rintro e w' ⟨rfl, hB⟩)
      | (go_at_call 80; refine (HCl.out _ hB).mono ?_; rintro e w2 ⟨v, rfl, ho, hB2⟩
         have HI2 := HI.out w2 v _ ho hB2 rfl)
      | (go_at_call 129; refine HI2.mono ?_; rintro e w3 ⟨v3, rfl, ho3, hB3⟩))
    go_ret
    exact ⟨_, rfl, ho3, hB3⟩
set_option maxHeartbeats 2000000 in
set_option maxRecDepth 100000 in
theorem ltake_any (w : World) (ao : Option Addr) (c : Nat) (l : List Ent) (key : ByteArray) (hl : ERow w ao l) (hat : ∀ a, ao = some a → ∃ g off, a = ⟨g, off, none⟩) (hnil : ao = none → l = [] ∧ c = 0) (hs : ascB l = true) (hn : l.length ≤ 10000) :
    Calls Tryz.prog 78 #[.slice ao l.length c, .string key] w fun e w' => ∃ v, e = .returned (.tuple #[v, .bool (lHas l key)]) ∧ EOwn w' w.heap.size v (lTake l key) ∧ Below w.heap.size w w' := by
  have hF := find_any w ao c l key hl hs (by omega)
  have HCl : Hid (∀ W, Below w.heap.size w W → Calls Tryz.prog 80 #[.slice ao l.length c] W fun e w' => ∃ v, e = .returned v ∧ EOwn w' w.heap.size v l ∧ Below w.heap.size w w') := fun W hB =>
    (clone_any W ao c l (hl.made hB) hat hnil (by omega)).mono fun e w' ⟨v, he, ho, hb⟩ => ⟨v, he, ho.base hB.size, hB.trans (hb.mono hB.size)⟩
  have hix := lIx_le l key
  cases hb : lHas l key with
  | true =>
    obtain ⟨hi, hk⟩ := lHas_at hb
    have HD : Hid (∀ W v, EOwn W w.heap.size v l → Below w.heap.size w W → Calls Tryz.prog 79 #[v, .int .i64 (lIx l key : Nat), .int .i64 ((lIx l key : Int) + 1)] W fun e w' => ∃ v', e = .returned v' ∧ EOwn w' w.heap.size v' (lTake l key) ∧ Below w.heap.size w w') := fun W v ho hB => by
      refine (delete_any W w.heap.size v l ho hB.size (lIx l key) hi (by omega)).mono ?_
      rintro e w' ⟨v', he, ho', hb'⟩
      refine ⟨v', he, ?_, hB.trans hb'⟩
      unfold lTake
      rw [hb]
      exact ho'
    rw [hb] at hF
    clear hl hat hnil hs hb hk
    generalize lTake l key = out at *
    generalize lIx l key = ix at *
    obtain ⟨n, HN⟩ : ∃ n, Hid (l.length = n) := ⟨_, Lib.hid rfl⟩
    rw [HN.out] at hF HCl hix hn hi ⊢
    clear HN
    go_enter Tryz.func78, Tryz.ntmps78
    go_wp2_with (first
      | (go_at_call 40; refine hF.mono ?_; rintro e w' ⟨rfl, hB⟩)
      | (go_at_call 80; refine (HCl.out _ hB).mono ?_; rintro e w2 ⟨v, rfl, ho, hB2⟩
         have HD2 := HD.out w2 v ho hB2)
      | (go_at_call 79; refine HD2.mono ?_; rintro e w3 ⟨v3, rfl, ho3, hB3⟩))
    go_ret2
    exact ⟨_, rfl, ho3, hB3⟩
  | false =>
    have HT : Hid (lTake l key = l) := by show _ = _; unfold lTake; rw [hb]; rfl
    rw [hb] at hF
    clear hl hat hnil hs hb
    rw [HT.out]
    clear HT
    generalize lIx l key = ix at *
    obtain ⟨n, HN⟩ : ∃ n, Hid (l.length = n) := ⟨_, Lib.hid rfl⟩
    rw [HN.out] at hF HCl hix hn ⊢
    clear HN
    go_enter Tryz.func78, Tryz.ntmps78
    go_wp2_with (first
      | (go_at_call 40; refine hF.mono ?_; rintro e w' ⟨rfl, hB⟩)
      | (go_at_call 80; refine (HCl.out _ hB).mono ?_; rintro e w2 ⟨v, rfl, ho, hB2⟩))
    go_ret2
    exact ⟨_, rfl, ho, hB2⟩
end Go.Proofs.YtmgcaohpbaiiaaaGreatDoor
