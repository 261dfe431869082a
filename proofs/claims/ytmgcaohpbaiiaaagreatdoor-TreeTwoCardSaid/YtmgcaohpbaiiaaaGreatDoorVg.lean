/- Looking at a tree: a branch. -/
import Derived.Test.YtmgcaohpbaiiaaaGreatDoorVf
import Derived.Test.YtmgcaohpbaiiaaaGreatDoorVd
set_option linter.unusedSimpArgs false
set_option linter.unusedVariables false
namespace Go.Proofs.YtmgcaohpbaiiaaaGreatDoor
open Go.RowKit Go.Maps Go.Shelf
/-- what is found so far: in a box, its rows apart -/
structure LJ (B bo : Nat) (w1 wr : World) (a1 : Option Addr) (c1 : Nat) (E : List Ent) (a2 : Option Addr) (c2 : Nat) (P : List Nat) (dp : Int) : Prop where
  box : wr.heap[bo]? = some (foundO (.slice a1 E.length c1) (.slice a2 P.length c2) dp)
  ent : EOwn wr B (.slice a1 E.length c1) E
  pag : wr.ownsRow B 3 1 (.slice a2 P.length c2) P.length (P.map encN)
  nb1 : ∀ b, (Value.slice a1 E.length c1).ownBlock = some b → b ≠ bo
  nb2 : ∀ b, (Value.slice a2 P.length c2).ownBlock = some b → b ≠ bo
  apart : ∀ b, (Value.slice a1 E.length c1).ownBlock = some b → (Value.slice a2 P.length c2).ownBlock ≠ some b
  bel : Below B w1 wr
section
variable {B bo : Nat} {w1 wr : World} {a1 a2 : Option Addr} {c1 c2 : Nat} {E : List Ent} {P : List Nat} {dp : Int}
set_option maxHeartbeats 1000000 in
theorem LJ.add (h : LJ B bo w1 wr a1 c1 E a2 c2 P dp) (hBo : B ≤ bo) (hw1 : B ≤ w1.heap.size) (w3 : World) (hB : Below wr.heap.size wr w3) (b1 b2 : Option Addr) (d1 d2 : Nat) (e : List Ent) (p : List Nat) (dx : Int)
    (x1 : EOwn w3 wr.heap.size (.slice b1 e.length d1) e) (x2 : w3.ownsRow wr.heap.size 3 1 (.slice b2 p.length d2) p.length (p.map encN)) (hne : e ≠ []) (hnp : p ≠ []) (hl1 : E.length + e.length ≤ 1000000) (hl2 : P.length + p.length ≤ 1000000) :
    ∃ W4 W5 W6 W7 W8 a1' c1' a2' c2', W4 = w3.alloc (foundO (.slice b1 e.length d1) (.slice b2 p.length d2) dx) ∧ W4.heap[bo]? = some (foundO (.slice a1 E.length c1) (.slice a2 P.length c2) dp) ∧ W4.heap[w3.heap.size]? = some (foundO (.slice b1 e.length d1) (.slice b2 p.length d2) dx) ∧
      W5 = W4.setCell ⟨bo, 2, none⟩ (.int .i64 (dx + 1)) ∧ W5.heap[bo]? = some (foundO (.slice a1 E.length c1) (.slice a2 P.length c2) (dx + 1)) ∧ W5.heap[w3.heap.size]? = some (foundO (.slice b1 e.length d1) (.slice b2 p.length d2) dx) ∧
      (Builtin.append_ #[31, 31] 31 #[.slice a1 E.length c1, .slice b1 e.length d1]).run Tryz.prog W5 = .ok (.slice a1' (E.length + e.length) c1') W6 ∧ W6.heap[bo]? = some (foundO (.slice a1 E.length c1) (.slice a2 P.length c2) (dx + 1)) ∧
      W7 = W6.setCell ⟨bo, 0, none⟩ (.slice a1' (E.length + e.length) c1') ∧ W7.heap[bo]? = some (foundO (.slice a1' (E.length + e.length) c1') (.slice a2 P.length c2) (dx + 1)) ∧ W7.heap[w3.heap.size]? = some (foundO (.slice b1 e.length d1) (.slice b2 p.length d2) dx) ∧
      (Builtin.append_ #[44, 44] 44 #[.slice a2 P.length c2, .slice b2 p.length d2]).run Tryz.prog W7 = .ok (.slice a2' (P.length + p.length) c2') W8 ∧ W8.heap[bo]? = some (foundO (.slice a1' (E.length + e.length) c1') (.slice a2 P.length c2) (dx + 1)) ∧
      LJ B bo w1 (W8.setCell ⟨bo, 1, none⟩ (.slice a2' (P.length + p.length) c2')) a1' c1' (E ++ e) a2' c2' (P ++ p) (dx + 1) := by
  have hbol := lt_of h.box
  have hBw : B ≤ wr.heap.size := by omega
  have hs3 := hB.size
  -- W4
  obtain ⟨W4, h4⟩ : ∃ W4, W4 = w3.alloc (foundO (.slice b1 e.length d1) (.slice b2 p.length d2) dx) := ⟨_, rfl⟩
  have hB4 : Below w3.heap.size w3 W4 := by rw [h4]; exact (Below.refl _ w3).alloc (Nat.le_refl _) _
  have hB4' := hB.trans (hB4.mono hs3)
  have hs4 : W4.heap.size = w3.heap.size + 1 := by rw [h4]; simp
  have bo4 := (hB4'.block bo hbol).trans h.box
  have bx4 : W4.heap[w3.heap.size]? = some (foundO (.slice b1 e.length d1) (.slice b2 p.length d2) dx) := by rw [h4]; exact heap_alloc_new' w3 _
  have e4 : EOwn W4 B (.slice a1 E.length c1) E := h.ent.made hB4'
  have p4 : W4.ownsRow B 3 1 (.slice a2 P.length c2) P.length (P.map encN) := ownsRow_keep h.pag fun g hg => hB4'.block g (h.pag.lt g hg).2
  have x14 : EOwn W4 wr.heap.size (.slice b1 e.length d1) e := x1.made hB4
  have x24 : W4.ownsRow wr.heap.size 3 1 (.slice b2 p.length d2) p.length (p.map encN) := ownsRow_keep x2 fun g hg => hB4.block g (x2.lt g hg).2
  -- W5
  obtain ⟨W5, h5⟩ : ∃ W5, W5 = W4.setCell ⟨bo, 2, none⟩ (.int .i64 (dx + 1)) := ⟨_, rfl⟩
  have o5 : ∀ g, g ≠ bo → W5.heap[g]? = W4.heap[g]? := fun g hg => by rw [h5]; exact setCell_other hg
  have bo5 : W5.heap[bo]? = some (foundO (.slice a1 E.length c1) (.slice a2 P.length c2) (dx + 1)) := by rw [h5]; exact heap_setCell_same bo4 2 _
  have bx5 := (o5 w3.heap.size (by omega)).trans bx4
  have hs5 : W5.heap.size = W4.heap.size := by rw [h5]; simp
  have e5 : EOwn W5 B (.slice a1 E.length c1) E := e4.keep fun g hg => o5 g (h.nb1 g hg)
  have p5 : W5.ownsRow B 3 1 (.slice a2 P.length c2) P.length (P.map encN) := ownsRow_keep p4 fun g hg => o5 g (h.nb2 g hg)
  have x15 : EOwn W5 wr.heap.size (.slice b1 e.length d1) e := x14.keep fun g hg => o5 g (by have := (x14.lt g hg).1; omega)
  have x25 : W5.ownsRow wr.heap.size 3 1 (.slice b2 p.length d2) p.length (p.map encN) := ownsRow_keep x24 fun g hg => o5 g (by have := (x24.lt g hg).1; omega)
  -- W6
  obtain ⟨ao', c', ee, er, -⟩ := x15.parts
  simp at ee
  obtain ⟨rfl, rfl⟩ := ee
  obtain ⟨a1', c1', W6, r6, e6, g6, n6⟩ := ent_append W5 B (.slice a1 E.length c1) E e d1 b1 e5 er (.inl hne) (by omega) (by omega)
  have hs6 := g6.size
  have own1lt : ∀ b, (Value.slice a1 E.length c1).ownBlock = some b → B ≤ b ∧ b < wr.heap.size := h.ent.lt
  have own2lt : ∀ b, (Value.slice a2 P.length c2).ownBlock = some b → B ≤ b ∧ b < wr.heap.size := h.pag.lt
  have bo6 := (g6.block bo (lt_of bo5) (fun e => h.nb1 bo e.symm rfl)).trans bo5
  have bx6 := (g6.block w3.heap.size (lt_of bx5) (fun e => by have := (own1lt _ e.symm).2; omega)).trans bx5
  have p6 : W6.ownsRow B 3 1 (.slice a2 P.length c2) P.length (P.map encN) := ownsRow_keep p5 fun g hg => g6.block g (p5.lt g hg).2 (fun e => h.apart g e.symm hg)
  have x26 : W6.ownsRow wr.heap.size 3 1 (.slice b2 p.length d2) p.length (p.map encN) := ownsRow_keep x25 fun g hg => g6.block g (x25.lt g hg).2 (fun e => by have := (own1lt _ e.symm).2; have := (x25.lt g hg).1; omega)
  have new1 : ∀ b, (Value.slice a1' (E.length + e.length) c1').ownBlock = some b → ((Value.slice a1 E.length c1).ownBlock = some b ∨ b = W5.heap.size) := fun b hb => by
    rcases n6 with e | e
    · exact .inl (by rw [← e]; exact hb)
    · exact .inr (Option.some.inj (e.symm.trans hb)).symm
  -- W7
  obtain ⟨W7, h7⟩ : ∃ W7, W7 = W6.setCell ⟨bo, 0, none⟩ (.slice a1' (E.length + e.length) c1') := ⟨_, rfl⟩
  have o7 : ∀ g, g ≠ bo → W7.heap[g]? = W6.heap[g]? := fun g hg => by rw [h7]; exact setCell_other hg
  have hs7 : W7.heap.size = W6.heap.size := by rw [h7]; simp
  have bo7 : W7.heap[bo]? = some (foundO (.slice a1' (E.length + e.length) c1') (.slice a2 P.length c2) (dx + 1)) := by rw [h7]; exact heap_setCell_same bo6 0 _
  have bx7 := (o7 w3.heap.size (by omega)).trans bx6
  have nb1' : ∀ b, (Value.slice a1' (E.length + e.length) c1').ownBlock = some b → b ≠ bo := fun b hb => by
    rcases new1 b hb with e | e
    · exact h.nb1 b e
    · omega
  have e7 : EOwn W7 B (.slice a1' (E.length + e.length) c1') (E ++ e) := e6.keep fun g hg => o7 g (nb1' g hg)
  have p7 : W7.ownsRow B 3 1 (.slice a2 P.length c2) P.length (P.map encN) := ownsRow_keep p6 fun g hg => o7 g (h.nb2 g hg)
  have x27 : W7.ownsRow wr.heap.size 3 1 (.slice b2 p.length d2) p.length (p.map encN) := ownsRow_keep x26 fun g hg => o7 g (by have := (x26.lt g hg).1; omega)
  -- W8
  obtain ⟨gp, hgp⟩ : ∃ gp, b2 = some ⟨gp, 0, none⟩ := by
    rcases x27.2 with ⟨hv, h0⟩ | ⟨g, cap, cur, hv, -⟩
    · exact absurd (List.length_eq_zero_iff.1 h0) hnp
    · simp at hv; exact ⟨g, hv.1⟩
  subst hgp
  obtain ⟨a2', c2', W8, r8, p8, g8, n8⟩ := many_append 3 44 (.int .i64 0) 1 8 info_int Tryz.underlying44 rfl (by decide) (by decide) W7 B (.slice a2 P.length c2) P.length (P.map encN) p7 ⟨gp, 0, none⟩ p.length d2 (p.map encN) (by simp)
    (fun j u hj => by
      have hjl : j < p.length := by have := (List.getElem?_eq_some_iff.1 hj).1; simpa using this
      rw [add_none, Nat.zero_add, x27.cellAt j (by omega)]
      exact hj)
    (fun u hu => by simp at hu; obtain ⟨x, -, rfl⟩ := hu; rfl) (by omega) (by omega)
  have hs8 := g8.size
  have bo8 := (g8.block bo (lt_of bo7) (fun e => h.nb2 bo e.symm rfl)).trans bo7
  have new2 : ∀ b, (Value.slice a2' (P.length + p.length) c2').ownBlock = some b → ((Value.slice a2 P.length c2).ownBlock = some b ∨ b = W7.heap.size) := fun b hb => by
    rcases n8 with e | e
    · exact .inl (by rw [← e]; exact hb)
    · exact .inr (Option.some.inj (e.symm.trans hb)).symm
  have e8 : EOwn W8 B (.slice a1' (E.length + e.length) c1') (E ++ e) := e7.keep fun g hg => g8.block g (e7.lt g hg).2 (fun e => by
    rcases new1 g hg with e2 | e2
    · exact h.apart g e2 e.symm
    · have := (own2lt g e.symm).2; omega)
  have nb2' : ∀ b, (Value.slice a2' (P.length + p.length) c2').ownBlock = some b → b ≠ bo := fun b hb => by
    rcases new2 b hb with e | e
    · exact h.nb2 b e
    · omega
  -- W9
  have o9 : ∀ g, g ≠ bo → (W8.setCell ⟨bo, 1, none⟩ (.slice a2' (P.length + p.length) c2')).heap[g]? = W8.heap[g]? := fun g hg => setCell_other hg
  have hB5 : Below B wr W5 := by rw [h5]; exact (hB4'.mono hBw).setCell hBo _
  have hB6 : Below B wr W6 := hB5.trans (grown_below g6 (fun b hb => (own1lt b hb).1) (by omega))
  have hB7 : Below B wr W7 := by rw [h7]; exact hB6.setCell hBo _
  have hB8 : Below B wr W8 := hB7.trans (grown_below g8 (fun b hb => (own2lt b hb).1) (by omega))
  refine ⟨W4, W5, W6, W7, W8, a1', c1', a2', c2', h4, bo4, bx4, h5, bo5, bx5, r6, bo6, h7, bo7, bx7, r8, bo8, ⟨?_, ?_, ?_, ?_, ?_, ?_, ?_⟩⟩
  · rw [List.length_append, List.length_append]
    exact heap_setCell_same bo8 1 _
  · rw [List.length_append]
    exact e8.keep fun g hg => o9 g (nb1' g hg)
  · rw [List.length_append, List.map_append]
    exact ownsRow_keep p8 fun g hg => o9 g (nb2' g hg)
  · rw [List.length_append]; exact nb1'
  · rw [List.length_append]; exact nb2'
  · rw [List.length_append, List.length_append]
    intro b hb hc
    rcases new1 b hb with e1 | e1 <;> rcases new2 b hc with e2 | e2
    · exact h.apart b e1 e2
    · have := (own1lt b e1).2; omega
    · have := (own2lt b e2).2; omega
    · have : b < W6.heap.size := (e6.lt b hb).2
      omega
  · exact h.bel.trans (hB8.setCell hBo _)
end
theorem found_set {W : World} {b : Nat} {p q r t u v : Value} {d : Int} (h : W.heap[b]? = some (.cells #[p, q, r, t] 50 (0, 0))) :
    ((((W.setCell ⟨b, 0, none⟩ u).setCell ⟨b, 1, none⟩ v).setCell ⟨b, 2, none⟩ (.int .i64 d)).setCell ⟨b, 3, none⟩ (.bool true)).heap[b]? = some (foundO u v d) :=
  heap_setCell_same (heap_setCell_same (heap_setCell_same (heap_setCell_same h 0 u) 1 v) 2 (.int .i64 d)) 3 (.bool true)
theorem found_upd (W : World) (b : Nat) (u v : Value) (d : Int) : Upd (fun x => x = b) W ((((W.setCell ⟨b, 0, none⟩ u).setCell ⟨b, 1, none⟩ v).setCell ⟨b, 2, none⟩ (.int .i64 d)).setCell ⟨b, 3, none⟩ (.bool true)) := by
  have h0 : Upd (fun x => x = b) W W := Upd.refl _ W
  have h1 : Upd (fun x => x = b) W (W.setCell ⟨b, 0, none⟩ u) := h0.setCell ⟨b, 0, none⟩ (fun _ => rfl) u
  have h2 : Upd (fun x => x = b) W ((W.setCell ⟨b, 0, none⟩ u).setCell ⟨b, 1, none⟩ v) := h1.setCell ⟨b, 1, none⟩ (fun _ => rfl) v
  have h3 : Upd (fun x => x = b) W (((W.setCell ⟨b, 0, none⟩ u).setCell ⟨b, 1, none⟩ v).setCell ⟨b, 2, none⟩ (.int .i64 d)) := h2.setCell ⟨b, 2, none⟩ (fun _ => rfl) (.int .i64 d)
  exact h3.setCell ⟨b, 3, none⟩ (fun _ => rfl) (.bool true)
theorem pg_wrap (v : ByteArray) : wrap64 (pgN v : Int) = pgN v ∧ IntKind.i64.wrap (pgN v : Int) = pgN v := by
  have hlt : pgN v < 65536 := getN_lt v 0 2
  generalize pgN v = n at *
  exact ⟨IntWalk.wrap64_in _ (by omega), IntWalk.i64_in _ (by omega)⟩
/-- what a call that looks at a child must answer -/
def ChildL (w : World) (g : Nat) (py : Nat) (lo hi : ByteArray) (mo : Int) (e : List Ent) (p : List Nat) (D : Nat) : Prop :=
  ∀ W, Below w.heap.size w W → Calls Tryz.prog 52 #[.slice (some ⟨g, 0, none⟩) 2048 2048, .int .i64 py, .string lo, .string hi, .int .i64 mo] W fun en w' =>
    ∃ b1 d1 b2 d2, en = .returned (.agg #[.slice b1 e.length d1, .slice b2 p.length d2, .int .i64 D, .bool true]) ∧ EOwn w' W.heap.size (.slice b1 e.length d1) e ∧ w'.ownsRow W.heap.size 3 1 (.slice b2 p.length d2) p.length (p.map encN) ∧ Below W.heap.size W w'
set_option maxHeartbeats 8000000 in
set_option maxRecDepth 100000 in
theorem look_branch (w : World) (g : Nat) (at_ : Nat) (lo hi : ByteArray) (most : Nat) (l : List Ent) (hat : at_ < 2048) (hc : w.cell? ⟨g, at_, none⟩ = some (.string (packB 2 l))) (hgl : g < w.heap.size) (hf : Fine 2 l) (hl0 : l ≠ []) (hm : most ≠ 0) (hm2 : most ≤ 1000) (EL : Nat → List Ent) (PL : Nat → List Nat) (D : Nat) (hD : D ≤ 1000)
    (hch : ∀ i (hi' : i < l.length), l[i].2.size = 2 ∧ EL i ≠ [] ∧ PL i ≠ [] ∧ ChildL w g (pgN l[i].2) (if i = 0 then lo else l[i].1) (if h : i + 1 < l.length then (l[i + 1]'h).1 else hi) ((most : Int) - 1) (EL i) (PL i) D)
    (hlen2 : ∀ k, k ≤ l.length → ((List.range k).flatMap EL).length ≤ 400000 ∧ ((List.range k).flatMap PL).length ≤ 400000) :
    Calls Tryz.prog 52 #[.slice (some ⟨g, 0, none⟩) 2048 2048, .int .i64 at_, .string lo, .string hi, .int .i64 most] w fun e w' => ∃ a1 c1 a2 c2, e = .returned (.agg #[.slice a1 ((List.range l.length).flatMap EL).length c1, .slice a2 (at_ :: (List.range l.length).flatMap PL).length c2, .int .i64 ((D : Int) + 1), .bool true]) ∧ EOwn w' w.heap.size (.slice a1 ((List.range l.length).flatMap EL).length c1) ((List.range l.length).flatMap EL) ∧ w'.ownsRow w.heap.size 3 1 (.slice a2 (at_ :: (List.range l.length).flatMap PL).length c2) (at_ :: (List.range l.length).flatMap PL).length ((at_ :: (List.range l.length).flatMap PL).map encN) ∧ Below w.heap.size w w' := by
  have HU : Hid (∀ W, Calls Tryz.prog 56 #[.string (packB 2 l)] W fun e w' => ∃ v, e = .returned (.tuple #[.int .i64 2, v, .int .i64 0]) ∧ EOwn w' W.heap.size v l ∧ Below W.heap.size W w') := fun W => runpack_any W 2 l hf
  have HC : Hid (∀ W, Below w.heap.size w W → W.cell? ⟨g, at_, none⟩ = some (.string (packB 2 l))) := fun W hB => (hB.cell (p := ⟨g, at_, none⟩) hgl).trans hc
  have hlen := hf.len
  have HCH := Lib.hid hch
  have HL2 := Lib.hid hlen2
  clear hf hc hch hlen2
  obtain ⟨TE, HTE⟩ : ∃ TE, Hid ((List.range l.length).flatMap EL = TE) := ⟨_, Lib.hid rfl⟩
  obtain ⟨TP, HTP⟩ : ∃ TP, Hid ((List.range l.length).flatMap PL = TP) := ⟨_, Lib.hid rfl⟩
  rw [HTE.out, HTP.out]
  generalize packB 2 l = s at *
  have z1 : ¬ ((2048 : Int) ≤ (at_ : Int)) := by omega
  have z2 : ¬ ((most : Int) = 0) := by omega
  have z4 : (at_ : Int) < 2048 := by omega
  have z6 : ((most : Int) == 0) = false := by simpa using hm
  have hpos : 0 < l.length := List.length_pos_iff.2 hl0
  go_enter Tryz.func52, Tryz.ntmps52
  have hB0 : Below w.heap.size w (w.alloc (.cells #[.slice none 0 0, .slice none 0 0, .int .i64 0, .bool false] 50)) := (Below.refl _ w).alloc (Nat.le_refl _) _
  have c0 := HC.out _ hB0
  have hu := HU.out (w.alloc (.cells #[.slice none 0 0, .slice none 0 0, .int .i64 0, .bool false] 50))
  have hr0 := heap_alloc_new' w (.cells #[.slice none 0 0, .slice none 0 0, .int .i64 0, .bool false] 50 (0, 0))
  have HR0 : Hid ((w.alloc (.cells #[.slice none 0 0, .slice none 0 0, .int .i64 0, .bool false] 50)).heap[w.heap.size]? = some (.cells #[.slice none 0 0, .slice none 0 0, .int .i64 0, .bool false] 50 (0, 0))) := hr0
  have HB0 := Lib.hid hB0
  clear HU HC hB0 hr0
  go_wp2_with fail
  refine hu.mono ?_
  rintro e w1 ⟨v, rfl, ho, hB1⟩
  obtain ⟨ao, c, rfl, -, -⟩ := ho.parts
  have HO := Lib.hid ho
  have HB1 := Lib.hid hB1
  clear hu c0 ho hB1
  obtain ⟨m, HM⟩ : ∃ m, Hid (l.length = m) := ⟨_, Lib.hid rfl⟩
  rw [HM.out] at hlen hpos HTE HTP ⊢
  have hl00 : ¬ ((m : Int) = 0) := by omega
  have hl01 : ((m : Int) == 0) = false := by simpa using hl00
  go_upto_region 16 with fail
  obtain ⟨x1, x2, x3, x4⟩ := look_start w1 at_
  generalize (w1.alloc (.cells #[.int .i64 at_] 3)).alloc (foundO (.slice none 0 0) (.slice (some ⟨w1.heap.size, 0, none⟩) 1 1) 1) = W2 at *
  have hB1 := HB0.out.trans (HB1.out.mono HB0.out.size)
  have HBO : Hid (∀ wr, Below w1.heap.size w1 wr → Below w.heap.size w wr ∧ wr.heap[w.heap.size]? = some (.cells #[.slice none 0 0, .slice none 0 0, .int .i64 0, .bool false] 50 (0, 0)) ∧ EOwn wr (w.heap.size + 1) (.slice ao l.length c) l) := fun wr hB => by
    have r1 := (HB1.out.block _ (lt_of HR0.out)).trans HR0.out
    have := HO.out.made hB
    simp only [World.size_alloc] at this
    exact ⟨hB1.trans (hB.mono hB1.size), (hB.block _ (lt_of r1)).trans r1, this⟩
  have HNE : Hid (w.heap.size < w1.heap.size) := by
    show _ < _
    have := HB1.out.size
    simp at this
    omega
  have HLJ : Hid (LJ w1.heap.size (w1.heap.size + 1) w1 W2 none 0 [] (some ⟨w1.heap.size, 0, none⟩) 1 [at_] 1) := by
    refine ⟨x1, EOwn.nil _ _, x2, fun b hb => by simp [Value.ownBlock] at hb, fun b hb => ?_, fun b hb => by simp [Value.ownBlock] at hb, x3⟩
    have : b = w1.heap.size := by simpa [Value.ownBlock] using hb.symm
    omega
  have HKEY : Hid (∀ wr, Below w1.heap.size w1 wr → ∀ k (hk : k < l.length), ∃ gl, ao = some ⟨gl, 0, none⟩ ∧ l.length ≤ c ∧ wr.cell? ⟨gl, k * 2, none⟩ = some (.string (l[k]'hk).1) ∧ wr.cell? ⟨gl, k * 2 + 1, none⟩ = some (.string (l[k]'hk).2)) := fun wr hB k hk => by
    have ho := (HBO.out wr hB).2.2
    obtain ⟨ao', c', e, er, -⟩ := ho.parts
    simp at e
    obtain ⟨rfl, rfl⟩ := e
    obtain ⟨gl, off, rfl, c0, c1⟩ := er.at hk
    obtain ⟨g', cur, e2, -, -, -, hlc, -⟩ := ho.block
    simp at e2
    obtain ⟨rfl, rfl⟩ := e2
    rw [Nat.zero_add] at c0 c1
    exact ⟨gl, rfl, by omega, c0, c1⟩
  clear x1 x2 x3 hB1 HO HB1 HB0 HR0
  obtain ⟨bo, HBOE⟩ : ∃ bo, Hid (w1.heap.size + 1 = bo) := ⟨_, Lib.hid rfl⟩
  rw [HBOE.out] at HLJ ⊢
  go_wp2
  go_loopw [96] (fun v wr => ∃ (k : Nat) (a1 : Option Addr) (c1 : Nat) (a2 : Option Addr) (c2 : Nat), v = .int .i64 k ∧ k ≤ m ∧ Hid (LJ w1.heap.size bo w1 wr a1 c1 ((List.range k).flatMap EL) a2 c2 (at_ :: (List.range k).flatMap PL) (if k = 0 then 1 else (D : Int) + 1))) (fun v _ => m - (intOf v).toNat)
  case atStart => exact ⟨0, none, 0, some ⟨w1.heap.size, 0, none⟩, 1, rfl, Nat.zero_le _, HLJ⟩
  case round =>
    obtain ⟨k, a1, c1, a2, c2, rfl, hk, HJ⟩ := hrel
    clear HLJ
    by_cases hlt : k < m
    · have hlt' : k < l.length := by rw [HM.out]; exact hlt
      obtain ⟨gl, rfl, hmc, k0, k1⟩ := HKEY.out wr HJ.out.bel k hlt'
      rw [HM.out] at hmc
      obtain ⟨y2, en0, pn0, hcall⟩ := HCH.out k hlt'
      have hbw := (HBO.out wr HJ.out.bel).1
      have HK2 : Hid (∀ (h : k + 1 < l.length), wr.cell? ⟨gl, (k + 1) * 2, none⟩ = some (.string (l[k + 1]'h).1)) := fun h => by
        obtain ⟨gl', e, -, d0, -⟩ := HKEY.out wr HJ.out.bel (k + 1) h
        simp at e
        subst e
        exact d0
      have hcl := hcall wr hbw
      have hpg : pgN l[k].2 < 65536 := getN_lt _ 0 2
      have hgt := rget2_any l[k].2 wr y2
      have hy2 : ¬ ((l[k].2.size : Int) ≠ 2) := by omega
      obtain ⟨hE2, hP2⟩ := HL2.out (k + 1) (by omega)
      have eE : (List.range (k + 1)).flatMap EL = (List.range k).flatMap EL ++ EL k := by rw [List.range_succ, List.flatMap_append]; simp
      have eP : (List.range (k + 1)).flatMap PL = (List.range k).flatMap PL ++ PL k := by rw [List.range_succ, List.flatMap_append]; simp
      rw [eE, List.length_append] at hE2
      rw [eP, List.length_append] at hP2
      have HFIN : Hid (∀ wq a1' c1' a2' c2', LJ w1.heap.size bo w1 wq a1' c1' ((List.range k).flatMap EL ++ EL k) a2' c2' (at_ :: (List.range k).flatMap PL ++ PL k) ((D : Int) + 1) → LJ w1.heap.size bo w1 wq a1' c1' ((List.range (k + 1)).flatMap EL) a2' c2' (at_ :: (List.range (k + 1)).flatMap PL) (if k + 1 = 0 then 1 else (D : Int) + 1)) := fun wq a1' c1' a2' c2' h => by
        rw [eE, eP, if_neg (by omega)]
        exact h
      obtain ⟨E0, hE0⟩ : ∃ E0, E0 = (List.range k).flatMap EL := ⟨_, rfl⟩
      obtain ⟨P0, hP0⟩ : ∃ P0, P0 = at_ :: (List.range k).flatMap PL := ⟨_, rfl⟩
      have hP3 : P0.length + (PL k).length ≤ 1000000 := by rw [hP0]; simp only [List.length_cons]; omega
      rw [← hE0] at hE2
      rw [← hE0, ← hP0] at HJ
      rw [← hE0] at HFIN
      rw [← hP0] at HFIN
      have hen : ¬ (((EL k).length : Int) = 0) := by
        have := List.length_pos_iff.2 en0
        omega
      obtain ⟨hwr, hwr2⟩ := pg_wrap l[k].2
      have HBE : Hid (w1.heap.size ≤ bo) := by show _ ≤ _; have := HBOE.out; omega
      have z3 : (m : Int) ≤ (c : Int) := by omega
      clear hcall HKEY HCH HL2 HBO HNE eE eP hE0 hP0 hbw HTE HTP
      generalize EL k = en at *
      generalize PL k = pn at *
      by_cases hk0 : k = 0
      · by_cases hk1 : k + 1 < l.length
        · rw [if_pos hk0, dif_pos hk1] at hcl
          have J2 := HJ.out
          rw [if_pos hk0] at J2
          have HJ3 := Lib.hid J2
          have v1 : ((1 : Int) < (m : Int)) := by have := HM.out; omega
          have k3 := HK2.out hk1
          clear HK2 HJ J2
          subst hk0
          simp only [Nat.zero_mul, Nat.zero_add, Nat.one_mul] at *
          generalize l[0].1 = kx at *
          generalize l[0].2 = ky at *
          generalize l[1].1 = nx at *
          generalize pgN ky = py at *
          go_wp2_with fail
          refine hgt.mono ?_
          rintro e w' ⟨rfl, rfl⟩
          clear hgt
          go_wp2_with fail
          refine hcl.mono ?_
          rintro e w3 ⟨b1, d1, b2, d2, rfl, x1, x2, hB⟩
          obtain ⟨W4, W5, W6, W7, W8, a1', c1', a2', c2', h4, bo4, bx4, h5, bo5, bx5, r6, bo6, h7, bo7, bx7, r8, bo8, J9⟩ := HJ3.out.add HBE.out (Nat.le_refl _) w3 hB b1 b2 d1 d2 en pn (D : Int) x1 x2 en0 pn0 (by omega) (by omega)
          have HJ9 := Lib.hid (HFIN.out _ _ _ _ _ J9)
          clear hcl HJ3 J9 x1 x2 hB HFIN
          go_upto_region 30 with fail
          rw [← h4]
          have c40 : W4.cell? ⟨w3.heap.size, 0, none⟩ = some (.slice b1 en.length d1) := by rw [cell_of bx4]; rfl
          have c42 : W4.cell? ⟨w3.heap.size, 2, none⟩ = some (.int .i64 (D : Int)) := by rw [cell_of bx4]; rfl
          have c43 : W4.cell? ⟨w3.heap.size, 3, none⟩ = some (.bool true) := by rw [cell_of bx4]; rfl
          have c4b : W4.cell? ⟨bo, 2, none⟩ = some (.int .i64 1) := by rw [cell_of bo4]; rfl
          have f4b : W4.frozen? ⟨bo, 2, none⟩ = false := frozen_of bo4 2
          clear h4 bo4 bx4
          go_upto_region 33 with fail
          rw [← h5]
          have c5a : W5.cell? ⟨bo, 0, none⟩ = some (.slice a1 E0.length c1) := by rw [cell_of bo5]; rfl
          have c5b : W5.cell? ⟨w3.heap.size, 0, none⟩ = some (.slice b1 en.length d1) := by rw [cell_of bx5]; rfl
          have c6 : W6.cell? ⟨bo, 0, none⟩ = some (.slice a1 E0.length c1) := by rw [cell_of bo6]; rfl
          have f6 : W6.frozen? ⟨bo, 0, none⟩ = false := frozen_of bo6 0
          clear h5 bo5 bx5 bo6 c40 c42 c43 c4b f4b
          go_upto_region 34 with (at_builtin; refine wpList_append_run r6 rfl rfl rfl rfl rfl ?_)
          rw [← h7]
          have c7a : W7.cell? ⟨bo, 1, none⟩ = some (.slice a2 P0.length c2) := by rw [cell_of bo7]; rfl
          have c7b : W7.cell? ⟨w3.heap.size, 1, none⟩ = some (.slice b2 pn.length d2) := by rw [cell_of bx7]; rfl
          have c8 : W8.cell? ⟨bo, 1, none⟩ = some (.slice a2 P0.length c2) := by rw [cell_of bo8]; rfl
          have f8 : W8.frozen? ⟨bo, 1, none⟩ = false := frozen_of bo8 1
          clear h7 bo7 bx7 bo8 c5a c5b c6 f6 r6
          go_wp2_with (at_builtin; refine wpList_append_run r8 rfl rfl rfl rfl rfl ?_)
          go_roundw
          case rel => exact ⟨1, _, _, _, _, by go_num, by omega, HJ9⟩
          case measure => simp [intOf]; omega
        · rw [if_pos hk0, dif_neg hk1] at hcl
          have J2 := HJ.out
          rw [if_pos hk0] at J2
          have HJ3 := Lib.hid J2
          have v1 : ¬ ((1 : Int) < (m : Int)) := by have := HM.out; omega
          clear HK2 HJ J2
          subst hk0
          simp only [Nat.zero_mul, Nat.zero_add, Nat.one_mul] at *
          generalize l[0].1 = kx at *
          generalize l[0].2 = ky at *
          generalize pgN ky = py at *
          go_wp2_with fail
          refine hgt.mono ?_
          rintro e w' ⟨rfl, rfl⟩
          clear hgt
          go_wp2_with fail
          refine hcl.mono ?_
          rintro e w3 ⟨b1, d1, b2, d2, rfl, x1, x2, hB⟩
          obtain ⟨W4, W5, W6, W7, W8, a1', c1', a2', c2', h4, bo4, bx4, h5, bo5, bx5, r6, bo6, h7, bo7, bx7, r8, bo8, J9⟩ := HJ3.out.add HBE.out (Nat.le_refl _) w3 hB b1 b2 d1 d2 en pn (D : Int) x1 x2 en0 pn0 (by omega) (by omega)
          have HJ9 := Lib.hid (HFIN.out _ _ _ _ _ J9)
          clear hcl HJ3 J9 x1 x2 hB HFIN
          go_upto_region 30 with fail
          rw [← h4]
          have c40 : W4.cell? ⟨w3.heap.size, 0, none⟩ = some (.slice b1 en.length d1) := by rw [cell_of bx4]; rfl
          have c42 : W4.cell? ⟨w3.heap.size, 2, none⟩ = some (.int .i64 (D : Int)) := by rw [cell_of bx4]; rfl
          have c43 : W4.cell? ⟨w3.heap.size, 3, none⟩ = some (.bool true) := by rw [cell_of bx4]; rfl
          have c4b : W4.cell? ⟨bo, 2, none⟩ = some (.int .i64 1) := by rw [cell_of bo4]; rfl
          have f4b : W4.frozen? ⟨bo, 2, none⟩ = false := frozen_of bo4 2
          clear h4 bo4 bx4
          go_upto_region 33 with fail
          rw [← h5]
          have c5a : W5.cell? ⟨bo, 0, none⟩ = some (.slice a1 E0.length c1) := by rw [cell_of bo5]; rfl
          have c5b : W5.cell? ⟨w3.heap.size, 0, none⟩ = some (.slice b1 en.length d1) := by rw [cell_of bx5]; rfl
          have c6 : W6.cell? ⟨bo, 0, none⟩ = some (.slice a1 E0.length c1) := by rw [cell_of bo6]; rfl
          have f6 : W6.frozen? ⟨bo, 0, none⟩ = false := frozen_of bo6 0
          clear h5 bo5 bx5 bo6 c40 c42 c43 c4b f4b
          go_upto_region 34 with (at_builtin; refine wpList_append_run r6 rfl rfl rfl rfl rfl ?_)
          rw [← h7]
          have c7a : W7.cell? ⟨bo, 1, none⟩ = some (.slice a2 P0.length c2) := by rw [cell_of bo7]; rfl
          have c7b : W7.cell? ⟨w3.heap.size, 1, none⟩ = some (.slice b2 pn.length d2) := by rw [cell_of bx7]; rfl
          have c8 : W8.cell? ⟨bo, 1, none⟩ = some (.slice a2 P0.length c2) := by rw [cell_of bo8]; rfl
          have f8 : W8.frozen? ⟨bo, 1, none⟩ = false := frozen_of bo8 1
          clear h7 bo7 bx7 bo8 c5a c5b c6 f6 r6
          go_wp2_with (at_builtin; refine wpList_append_run r8 rfl rfl rfl rfl rfl ?_)
          go_roundw
          case rel => exact ⟨1, _, _, _, _, by go_num, by omega, HJ9⟩
          case measure => simp [intOf]; omega
      · by_cases hk1 : k + 1 < l.length
        · rw [if_neg hk0, dif_pos hk1] at hcl
          have J2 := HJ.out
          rw [if_neg hk0] at J2
          have HJ3 := Lib.hid J2
          have v0 : ¬ ((k : Int) = 0) := by omega
          have v0b : (0 : Int) < (k : Int) := by omega
          have v1 : ((k : Int) + 1 < (m : Int)) := by have := HM.out; omega
          have k3 := HK2.out hk1
          clear HK2 HJ J2
          generalize l[k].1 = kx at *
          generalize l[k].2 = ky at *
          generalize l[k + 1].1 = nx at *
          generalize pgN ky = py at *
          go_wp2_with fail
          refine hgt.mono ?_
          rintro e w' ⟨rfl, rfl⟩
          clear hgt
          go_wp2_with fail
          refine hcl.mono ?_
          rintro e w3 ⟨b1, d1, b2, d2, rfl, x1, x2, hB⟩
          obtain ⟨W4, W5, W6, W7, W8, a1', c1', a2', c2', h4, bo4, bx4, h5, bo5, bx5, r6, bo6, h7, bo7, bx7, r8, bo8, J9⟩ := HJ3.out.add HBE.out (Nat.le_refl _) w3 hB b1 b2 d1 d2 en pn (D : Int) x1 x2 en0 pn0 (by omega) (by omega)
          have HJ9 := Lib.hid (HFIN.out _ _ _ _ _ J9)
          clear hcl HJ3 J9 x1 x2 hB HFIN
          go_upto_region 30 with fail
          rw [← h4]
          have c40 : W4.cell? ⟨w3.heap.size, 0, none⟩ = some (.slice b1 en.length d1) := by rw [cell_of bx4]; rfl
          have c42 : W4.cell? ⟨w3.heap.size, 2, none⟩ = some (.int .i64 (D : Int)) := by rw [cell_of bx4]; rfl
          have c43 : W4.cell? ⟨w3.heap.size, 3, none⟩ = some (.bool true) := by rw [cell_of bx4]; rfl
          have c4b : W4.cell? ⟨bo, 2, none⟩ = some (.int .i64 ((D : Int) + 1)) := by rw [cell_of bo4]; rfl
          have f4b : W4.frozen? ⟨bo, 2, none⟩ = false := frozen_of bo4 2
          clear h4 bo4 bx4
          go_upto_region 33 with fail
          rw [← h5]
          have c5a : W5.cell? ⟨bo, 0, none⟩ = some (.slice a1 E0.length c1) := by rw [cell_of bo5]; rfl
          have c5b : W5.cell? ⟨w3.heap.size, 0, none⟩ = some (.slice b1 en.length d1) := by rw [cell_of bx5]; rfl
          have c6 : W6.cell? ⟨bo, 0, none⟩ = some (.slice a1 E0.length c1) := by rw [cell_of bo6]; rfl
          have f6 : W6.frozen? ⟨bo, 0, none⟩ = false := frozen_of bo6 0
          clear h5 bo5 bx5 bo6 c40 c42 c43 c4b f4b
          go_upto_region 34 with (at_builtin; refine wpList_append_run r6 rfl rfl rfl rfl rfl ?_)
          rw [← h7]
          have c7a : W7.cell? ⟨bo, 1, none⟩ = some (.slice a2 P0.length c2) := by rw [cell_of bo7]; rfl
          have c7b : W7.cell? ⟨w3.heap.size, 1, none⟩ = some (.slice b2 pn.length d2) := by rw [cell_of bx7]; rfl
          have c8 : W8.cell? ⟨bo, 1, none⟩ = some (.slice a2 P0.length c2) := by rw [cell_of bo8]; rfl
          have f8 : W8.frozen? ⟨bo, 1, none⟩ = false := frozen_of bo8 1
          clear h7 bo7 bx7 bo8 c5a c5b c6 f6 r6
          go_wp2_with (at_builtin; refine wpList_append_run r8 rfl rfl rfl rfl rfl ?_)
          go_roundw
          case rel => exact ⟨k + 1, _, _, _, _, by go_num, by omega, HJ9⟩
          case measure => simp [intOf]; omega
        · rw [if_neg hk0, dif_neg hk1] at hcl
          have J2 := HJ.out
          rw [if_neg hk0] at J2
          have HJ3 := Lib.hid J2
          have v0 : ¬ ((k : Int) = 0) := by omega
          have v0b : (0 : Int) < (k : Int) := by omega
          have v1 : ¬ ((k : Int) + 1 < (m : Int)) := by have := HM.out; omega
          clear HK2 HJ J2
          generalize l[k].1 = kx at *
          generalize l[k].2 = ky at *
          generalize pgN ky = py at *
          go_wp2_with fail
          refine hgt.mono ?_
          rintro e w' ⟨rfl, rfl⟩
          clear hgt
          go_wp2_with fail
          refine hcl.mono ?_
          rintro e w3 ⟨b1, d1, b2, d2, rfl, x1, x2, hB⟩
          obtain ⟨W4, W5, W6, W7, W8, a1', c1', a2', c2', h4, bo4, bx4, h5, bo5, bx5, r6, bo6, h7, bo7, bx7, r8, bo8, J9⟩ := HJ3.out.add HBE.out (Nat.le_refl _) w3 hB b1 b2 d1 d2 en pn (D : Int) x1 x2 en0 pn0 (by omega) (by omega)
          have HJ9 := Lib.hid (HFIN.out _ _ _ _ _ J9)
          clear hcl HJ3 J9 x1 x2 hB HFIN
          go_upto_region 30 with fail
          rw [← h4]
          have c40 : W4.cell? ⟨w3.heap.size, 0, none⟩ = some (.slice b1 en.length d1) := by rw [cell_of bx4]; rfl
          have c42 : W4.cell? ⟨w3.heap.size, 2, none⟩ = some (.int .i64 (D : Int)) := by rw [cell_of bx4]; rfl
          have c43 : W4.cell? ⟨w3.heap.size, 3, none⟩ = some (.bool true) := by rw [cell_of bx4]; rfl
          have c4b : W4.cell? ⟨bo, 2, none⟩ = some (.int .i64 ((D : Int) + 1)) := by rw [cell_of bo4]; rfl
          have f4b : W4.frozen? ⟨bo, 2, none⟩ = false := frozen_of bo4 2
          clear h4 bo4 bx4
          go_upto_region 33 with fail
          rw [← h5]
          have c5a : W5.cell? ⟨bo, 0, none⟩ = some (.slice a1 E0.length c1) := by rw [cell_of bo5]; rfl
          have c5b : W5.cell? ⟨w3.heap.size, 0, none⟩ = some (.slice b1 en.length d1) := by rw [cell_of bx5]; rfl
          have c6 : W6.cell? ⟨bo, 0, none⟩ = some (.slice a1 E0.length c1) := by rw [cell_of bo6]; rfl
          have f6 : W6.frozen? ⟨bo, 0, none⟩ = false := frozen_of bo6 0
          clear h5 bo5 bx5 bo6 c40 c42 c43 c4b f4b
          go_upto_region 34 with (at_builtin; refine wpList_append_run r6 rfl rfl rfl rfl rfl ?_)
          rw [← h7]
          have c7a : W7.cell? ⟨bo, 1, none⟩ = some (.slice a2 P0.length c2) := by rw [cell_of bo7]; rfl
          have c7b : W7.cell? ⟨w3.heap.size, 1, none⟩ = some (.slice b2 pn.length d2) := by rw [cell_of bx7]; rfl
          have c8 : W8.cell? ⟨bo, 1, none⟩ = some (.slice a2 P0.length c2) := by rw [cell_of bo8]; rfl
          have f8 : W8.frozen? ⟨bo, 1, none⟩ = false := frozen_of bo8 1
          clear h7 bo7 bx7 bo8 c5a c5b c6 f6 r6
          go_wp2_with (at_builtin; refine wpList_append_run r8 rfl rfl rfl rfl rfl ?_)
          go_roundw
          case rel => exact ⟨k + 1, _, _, _, _, by go_num, by omega, HJ9⟩
          case measure => simp [intOf]; omega
    · obtain rfl : m = k := by omega
      have J := HJ.out
      have hm0 : ¬ m = 0 := by omega
      rw [if_neg hm0, HTE.out, HTP.out] at J
      have hres := (HBO.out wr J.bel).2.1
      have hne : w.heap.size < bo := by have := HBOE.out; have := HNE.out; omega
      have hbox := J.box
      have hbx0 : wr.heap[bo]? = some (foundO (.slice a1 TE.length c1) (.slice a2 (at_ :: TP).length c2) ((D : Int) + 1)) := hbox
      have e0 : wr.cell? ⟨bo, 0, none⟩ = some (.slice a1 TE.length c1) := by rw [cell_of hbx0]; rfl
      have e1 : wr.cell? ⟨bo, 1, none⟩ = some (.slice a2 (at_ :: TP).length c2) := by rw [cell_of hbx0]; rfl
      have e2 : wr.cell? ⟨bo, 2, none⟩ = some (.int .i64 ((D : Int) + 1)) := by rw [cell_of hbx0]; rfl
      have e3 : wr.cell? ⟨bo, 3, none⟩ = some (.bool true) := by rw [cell_of hbx0]; rfl
      have r0 : wr.cell? ⟨w.heap.size, 0, none⟩ = some (.slice none 0 0) := by rw [cell_of hres]; rfl
      have r1 : wr.cell? ⟨w.heap.size, 1, none⟩ = some (.slice none 0 0) := by rw [cell_of hres]; rfl
      have r2 : wr.cell? ⟨w.heap.size, 2, none⟩ = some (.int .i64 0) := by rw [cell_of hres]; rfl
      have r3 : wr.cell? ⟨w.heap.size, 3, none⟩ = some (.bool false) := by rw [cell_of hres]; rfl
      have g0 : wr.frozen? ⟨w.heap.size, 0, none⟩ = false := frozen_of hres 0
      have g1 : wr.frozen? ⟨w.heap.size, 1, none⟩ = false := frozen_of hres 1
      have g2 : wr.frozen? ⟨w.heap.size, 2, none⟩ = false := frozen_of hres 2
      have g3 : wr.frozen? ⟨w.heap.size, 3, none⟩ = false := frozen_of hres 3
      have HH4 := Lib.hid (found_set hres (u := .slice a1 TE.length c1) (v := .slice a2 (at_ :: TP).length c2) (d := (D : Int) + 1))
      have hu4 := found_upd wr w.heap.size (.slice a1 TE.length c1) (.slice a2 (at_ :: TP).length c2) ((D : Int) + 1)
      have HF4 : Hid (∀ W4, Upd (fun b => b = w.heap.size) wr W4 → EOwn W4 w.heap.size (.slice a1 TE.length c1) TE ∧ W4.ownsRow w.heap.size 3 1 (.slice a2 (at_ :: TP).length c2) (at_ :: TP).length ((at_ :: TP).map encN) ∧ Below w.heap.size w W4) := fun W4 hu => by
        have hn := HNE.out
        have hbw := (HBO.out wr J.bel).1
        refine ⟨(J.ent.keep fun b hb => hu.block b (J.ent.lt b hb).2 (by have := (J.ent.lt b hb).1; omega)).base (by omega), ownsRow_base' (ownsRow_keep J.pag fun b hb => hu.block b (J.pag.lt b hb).2 (by have := (J.pag.lt b hb).1; omega)) (by omega), hbw.trans (hu.toBelow hbw.size fun x hx hb => by omega)⟩
      have HF5 := Lib.hid (HF4.out _ hu4)
      clear hres hbox hbx0 J HJ hu4 HF4 HBO HKEY HCH HL2
      go_wp2
      clear e0 e1 e2 e3 r0 r1 r2 r3 g0 g1 g2 g3
      generalize (((wr.setCell ⟨w.heap.size, 0, none⟩ (.slice a1 TE.length c1)).setCell ⟨w.heap.size, 1, none⟩ (.slice a2 (at_ :: TP).length c2)).setCell ⟨w.heap.size, 2, none⟩ (.int .i64 ((D : Int) + 1))).setCell ⟨w.heap.size, 3, none⟩ (.bool true) = W4 at *
      have q0 : W4.cell? ⟨w.heap.size, 0, none⟩ = some (.slice a1 TE.length c1) := by rw [cell_of HH4.out]; rfl
      have q1 : W4.cell? ⟨w.heap.size, 1, none⟩ = some (.slice a2 (at_ :: TP).length c2) := by rw [cell_of HH4.out]; rfl
      have q2 : W4.cell? ⟨w.heap.size, 2, none⟩ = some (.int .i64 ((D : Int) + 1)) := by rw [cell_of HH4.out]; rfl
      have q3 : W4.cell? ⟨w.heap.size, 3, none⟩ = some (.bool true) := by rw [cell_of HH4.out]; rfl
      obtain ⟨t1, t2, t3⟩ := HF5.out
      simp [bodyPost, results, Tryz.results52, go_sem, q0, q1, q2, q3]
      refine ⟨a1, c1, a2, c2, ?_, t1, t2, t3⟩
      simp
end Go.Proofs.YtmgcaohpbaiiaaaGreatDoor
