/- TreeTwo: two trees in one space, side by side. -/
import Derived.Test.YtmgcaohpbaiiaaaGreatDoorVm
set_option linter.unusedSimpArgs false
set_option linter.unusedVariables false
namespace Go.Proofs.YtmgcaohpbaiiaaaGreatDoor
open Go.RowKit Go.Maps Go.Shelf
section
variable {f m root B : Nat} {S S1 : TS} {l : List Ent} {P Q R : List Nat}
theorem TreeL.fewer (h : TreeL f m S root l P B) : 234 * P.length ≤ 4 * B + 234 := by
  obtain ⟨d, L, h1, rfl, rfl, h4⟩ := h
  have := h1.pages
  simp only [List.length_cons]
  omega
end
/-- two trees in a space: what lies in it, and what is taken is theirs -/
structure Two (w0 w : World) (s dk : Nat) (F : Nat → Prop) (V D : Int → ByteArray) (N : Int) (S : TS) (one two : Nat) (l1 l2 : List Ent) (P1 P2 : List Nat) (b1 b2 : Nat) : Prop where
  sin : SIn w0 w s dk F 2048 V D N
  lt : ∀ b, F b → b < w.heap.size
  shows : Shows 2048 V S
  t1 : TreeL (jFirst 2048).toNat (spMany 2048) S one l1 P1 b1
  t2 : TreeL (jFirst 2048).toNat (spMany 2048) S two l2 P2 b2
  apart : ∀ x ∈ P2, x ∉ P1
  cnt : cntM (spMany 2048) S = P1.length + P2.length
section
variable {w0 w W W1 : World} {s dk one two B0 b1 b2 c1 c2 : Nat} {F F1 : Nat → Prop} {N M : Int} {V D V1 : Int → ByteArray} {S S1 : TS} {l1 l2 : List Ent} {P1 P2 : List Nat} {a1 a2 : Option Addr}
theorem Two.swap (h : Two w0 w s dk F V D N S one two l1 l2 P1 P2 b1 b2) : Two w0 w s dk F V D N S two one l2 l1 P2 P1 b2 b1 :=
  ⟨h.sin, h.lt, h.shows, h.t2, h.t1, fun x hx hy => h.apart x hy hx, by have := h.cnt; omega⟩
theorem Two.mono (h : Two w0 w s dk F V D N S one two l1 l2 P1 P2 b1 b2) (hle : N ≤ M) : Two w0 w s dk F V D M S one two l1 l2 P1 P2 b1 b2 := ⟨h.sin.mono hle, h.lt, h.shows, h.t1, h.t2, h.apart, h.cnt⟩
/-- a tree of the two is called for -/
abbrev treeO (s r : Nat) : Obj := .cells #[.pointer (some ⟨s, 0, none⟩), .int .i64 r] 70 (0, 0)
/-- two trees and their rows -/
def TwoAt (w0 w : World) (s dk : Nat) (D : Int → ByteArray) (one two B0 : Nat) (a1 : Option Addr) (c1 : Nat) (l1 : List Ent) (a2 : Option Addr) (c2 : Nat) (l2 : List Ent) (k1 k2 : Nat) (N : Int) : Prop :=
  ∃ F V S P1 P2, Two w0 w s dk F V D N S one two l1 l2 P1 P2 (98 * k1) (98 * k2) ∧ Row w F B0 (.slice a1 l1.length c1) l1 ∧ Row w F B0 (.slice a2 l2.length c2) l2
variable {k1 k2 : Nat}
theorem TwoAt.swap (h : TwoAt w0 w s dk D one two B0 a1 c1 l1 a2 c2 l2 k1 k2 N) : TwoAt w0 w s dk D two one B0 a2 c2 l2 a1 c1 l1 k2 k1 N := by
  obtain ⟨F, V, S, P1, P2, h1, h2, h3⟩ := h
  exact ⟨F, V, S, P2, P1, h1.swap, h3, h2⟩
theorem TwoAt.below (h : TwoAt w0 w s dk D one two B0 a1 c1 l1 a2 c2 l2 k1 k2 N) : Below w0.heap.size w0 w := by
  obtain ⟨F, V, S, P1, P2, h1, -⟩ := h
  exact h1.sin.below
theorem TwoAt.mono (h : TwoAt w0 w s dk D one two B0 a1 c1 l1 a2 c2 l2 k1 k2 N) (hle : N ≤ M) : TwoAt w0 w s dk D one two B0 a1 c1 l1 a2 c2 l2 k1 k2 M := by
  obtain ⟨F, V, S, P1, P2, h1, h2⟩ := h
  exact ⟨F, V, S, P1, P2, h1.mono hle, h2⟩
theorem TwoAt.len (h : TwoAt w0 w s dk D one two B0 a1 c1 l1 a2 c2 l2 k1 k2 N) : l1.length ≤ 49 * k1 ∧ l2.length ≤ 49 * k2 := by
  obtain ⟨F, V, S, P1, P2, h1, h2⟩ := h
  have := h1.t1.len
  have := h1.t2.len
  omega
/-- an act on the first of the two, called for in a world w1 with its tree at t -/
theorem TwoAt.does (h : TwoAt w0 w s dk D one two B0 a1 c1 l1 a2 c2 l2 k1 k2 N) (hB0 : B0 ≤ w.heap.size) (hk : k1 + k2 ≤ 200) (hN : N < 90000000) (W1 : World) (hW1 : Below w.heap.size w W1) (t : Nat) (ht : W1.heap[t]? = some (treeO s one)) (htw : w.heap.size ≤ t) (kk nn : Int) (key value : ByteArray) (hkw : (Lit.int .i64 kk).wf = true) :
    Calls Tryz.prog 12 #[.pointer (some ⟨t, 0, none⟩), .slice a1 l1.length c1, actV kk key value nn] W1 fun e w' => ∃ a3 c3, e = .returned (.tuple #[.slice a3 (actL kk key value l1).length c3, .bool true]) ∧ TwoAt w0 w' s dk D one two B0 a3 c3 (actL kk key value l1) a2 c2 l2 (k1 + 1) k2 (N + 8000) ∧ W1.heap.size ≤ w'.heap.size := by
  obtain ⟨F, V, S, P1, P2, h1, h2, h3⟩ := h
  have hs1 := hW1.size
  have f1 := h1.t1.fewer
  have f2 := h1.t2.fewer
  have hcn := h1.cnt
  have hT : TWorld w0 W1 s dk t one F 2048 V D N S l1 P1 (98 * k1) := ⟨⟨h1.sin.made hW1, fun b hb => by have := h1.lt b hb; omega, ⟨ht, fun hf => by have := h1.lt _ hf; omega⟩, h1.shows⟩, h1.t1⟩
  have hm := many2048
  refine (does_any hT (h2.made hW1) (by omega) kk nn key value hkw (by omega) (by rw [hcn]; omega) (by omega)).mono ?_
  rintro e w' ⟨F', V', S', P', a3, c3, he, hr, hrow, hT2, hE⟩
  obtain ⟨q1, q2⟩ := h1.t2.frame hE h1.apart
  refine ⟨a3, c3, he, ⟨F', V', S', P', P2, ⟨hr.tin.sin, hr.tin.lt, hr.tin.shows, hT2.mono (by omega), q1, q2, ?_⟩, hrow, hr.tst.keeps _ _ _ (h3.made hW1)⟩, hr.size⟩
  have := hE.cnt
  omega
/-- the end's calls, behind both looks: g and g + 1 are the boxes with what was found -/
def TwoEnd (w0 : World) (s : Nat) (a1 : Option Addr) (c1 : Nat) (a2 : Option Addr) (c2 : Nat) (n1 n2 : Nat) (a3 : Option Addr) (c3 : Nat) (a5 : Option Addr) (c5 : Nat) (p1 p2 : Nat) (g : Nat) (o1 o2 : Obj) (W : World) : Prop :=
  ∀ W2, Below W.heap.size W W2 → Calls Tryz.prog 14 #[.slice a3 n1 c3, .slice a1 n1 c1] W2 fun e w3 => e = .returned (.bool true) ∧ w3.heap[g]? = some o1 ∧ w3.heap[g + 1]? = some o2 ∧
    Hid (∀ W3, Below w3.heap.size w3 W3 → Calls Tryz.prog 14 #[.slice a5 n2 c5, .slice a2 n2 c2] W3 fun e w4 => e = .returned (.bool true) ∧ w4.heap[g]? = some o1 ∧ w4.heap[g + 1]? = some o2 ∧
      Hid (∀ W4, Below w4.heap.size w4 W4 → Calls Tryz.prog 24 #[.pointer (some ⟨s, 0, none⟩)] W4 fun e w5 => ∃ a c, e = .returned (.slice a (p1 + p2) c) ∧ w5.heap[g]? = some o1 ∧ w5.heap[g + 1]? = some o2 ∧ Hid (∀ W5, Below w5.heap.size w5 W5 → Below w0.heap.size w0 W5)))
theorem TwoAt.last (h : TwoAt w0 w s dk D one two B0 a1 c1 l1 a2 c2 l2 k1 k2 N) (hk : k1 + k2 ≤ 300) (hN : N < 90000000) :
    Calls Tryz.prog 19 #[.pointer (some ⟨s, 0, none⟩), .int .i64 one] w fun e w1 => ∃ (d : Int) (p1 : Nat) (a3 : Option Addr) (c3 : Nat) (a4 : Option Addr) (c4 : Nat), e = .returned (.agg #[.slice a3 l1.length c3, .slice a4 p1 c4, .int .i64 (d + 1), .bool true]) ∧
     Calls Tryz.prog 19 #[.pointer (some ⟨s, 0, none⟩), .int .i64 two] w1 fun e w2 => ∃ (d : Int) (p2 : Nat) (a5 : Option Addr) (c5 : Nat) (a6 : Option Addr) (c6 : Nat), e = .returned (.agg #[.slice a5 l2.length c5, .slice a6 p2 c6, .int .i64 (d + 1), .bool true]) ∧ p1 + p2 ≤ 3000 ∧
      Hid (∀ o1 o2, TwoEnd w0 s a1 c1 a2 c2 l1.length l2.length a3 c3 a5 c5 p1 p2 w2.heap.size o1 o2 ((w2.alloc o1).alloc o2)) := by
  obtain ⟨F, V, S, P1, P2, h1, h2, h3⟩ := h
  have h0 := h1.sin.below.size
  have hsl := h1.sin.slt
  have f1 := h1.t1.fewer
  have f2 := h1.t2.fewer
  have n1 := h1.t1.len
  have n2 := h1.t2.len
  have hT : (takenS (jFirst 2048).toNat (spMany 2048) S).length = P1.length + P2.length := takenS_len.trans h1.cnt
  refine (gfound_any ⟨h1.sin, h1.lt, h1.shows⟩ h1.t1 (by omega) (by omega) h0 hsl (by omega)).mono ?_
  rintro e w1 ⟨F1, d1, a3, c3, a4, c4, he, hr1, r3, -⟩
  refine ⟨d1, P1.length, a3, c3, a4, c4, he, ?_⟩
  have q1 := hr1.tst.keeps _ _ _ h2
  have q2 := hr1.tst.keeps _ _ _ h3
  have hs1 := hr1.size
  refine (gfound_any hr1.gin h1.t2 (by omega) (by omega) (by omega) (by omega) (by omega)).mono ?_
  rintro e w2 ⟨F2, d2, a5, c5, a6, c6, he, hr2, r5, -⟩
  refine ⟨d2, P2.length, a5, c5, a6, c6, he, by omega, fun o1 o2 => ?_⟩
  have q1 := hr2.tst.keeps _ _ _ q1
  have q2 := hr2.tst.keeps _ _ _ q2
  have q3 := hr2.tst.keeps _ _ _ r3
  have hs2 := hr2.size
  have hB2 : Below w2.heap.size w2 ((w2.alloc o1).alloc o2) := ((Below.refl _ w2).alloc (Nat.le_refl _) _).alloc (by simp) _
  have x1 : ((w2.alloc o1).alloc o2).heap[w2.heap.size]? = some o1 := (Below.heap_alloc _ _ _ (by simp)).trans (heap_alloc_new' w2 _)
  have x2 : ((w2.alloc o1).alloc o2).heap[w2.heap.size + 1]? = some o2 := by
    have := heap_alloc_new' (w2.alloc o1) o2
    rwa [World.size_alloc] at this
  have hg0 : ∀ b, F2 b → b ≠ w2.heap.size ∧ b ≠ w2.heap.size + 1 := fun b hb => by have := hr2.gin.lt b hb; omega
  generalize hgg : w2.heap.size = g at *
  have hL : g + 1 < ((w2.alloc o1).alloc o2).heap.size := lt_of x2
  intro W2 hW2
  have hs3 := hW2.size
  have hB := hB2.trans (hW2.mono (by omega))
  have p1 := (q1.made (by rw [hgg]; exact hB))
  have p2 := (q2.made (by rw [hgg]; exact hB))
  have p3 := (q3.made (by rw [hgg]; exact hB))
  have p5 := (r5.made (by rw [hgg]; exact hB))
  have hG := hr2.gin.made (by rw [hgg]; exact hB)
  have y1 := (hW2.block g (by omega)).trans x1
  have y2 := (hW2.block (g + 1) (by omega)).trans x2
  clear hB2 x1 x2 hB hW2 q1 q2 q3 r5 r3 hr2 hr1 h2 h3
  obtain ⟨_, _, e1, er1, -⟩ := p1.parts
  simp at e1
  obtain ⟨rfl, rfl⟩ := e1
  obtain ⟨_, _, e3, er3, -⟩ := p3.parts
  simp at e3
  obtain ⟨rfl, rfl⟩ := e3
  refine (rsame_any W2 a3 a1 c3 c1 l1 l1 er3 er1 (by omega) (by omega)).mono ?_
  rintro e w3 ⟨he, hB3⟩
  have hs4 := hB3.size
  refine ⟨by simpa using he, (hB3.block g (by omega)).trans y1, (hB3.block (g + 1) (by omega)).trans y2, fun W3 hW3 => ?_⟩
  have hs5 := hW3.size
  have hB := hB3.trans (hW3.mono hB3.size)
  have p2 := p2.made hB
  have p5 := p5.made hB
  have hG := hG.made hB
  have y1 := (hB.block g (by omega)).trans y1
  have y2 := (hB.block (g + 1) (by omega)).trans y2
  obtain ⟨_, _, e2, er2, -⟩ := p2.parts
  simp at e2
  obtain ⟨rfl, rfl⟩ := e2
  obtain ⟨_, _, e5, er5, -⟩ := p5.parts
  simp at e5
  obtain ⟨rfl, rfl⟩ := e5
  refine (rsame_any W3 a5 a2 c5 c2 l2 l2 er5 er2 (by omega) (by omega)).mono ?_
  rintro e w4 ⟨he, hB4⟩
  have hs6 := hB4.size
  refine ⟨by simpa using he, (hB4.block g (by omega)).trans y1, (hB4.block (g + 1) (by omega)).trans y2, fun W4 hW4 => ?_⟩
  have hs7 := hW4.size
  have hB := hB4.trans (hW4.mono hB4.size)
  have hG := hG.made hB
  have y1 := (hB.block g (by omega)).trans y1
  have y2 := (hB.block (g + 1) (by omega)).trans y2
  refine (gtaken_own hG (by omega)).mono ?_
  rintro e w5 ⟨F5, a, cap, he, hr5, -⟩
  have hz : (zN (takenS (jFirst 2048).toNat (spMany 2048) S)).length = P1.length + P2.length := by rw [← hT]; simp [zN]
  rw [hz] at he
  refine ⟨a, cap, he, (hr5.tst.upd.block g (by omega) fun hf => (hg0 g hf).1 rfl).trans y1, (hr5.tst.upd.block (g + 1) (by omega) fun hf => (hg0 (g + 1) hf).2 rfl).trans y2, fun W5 hW5 => ?_⟩
  have hb := hr5.gin.sin.below
  exact hb.trans (hW5.mono hb.size)
end
end Go.Proofs.YtmgcaohpbaiiaaaGreatDoor
