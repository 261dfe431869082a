/- TreeShape: a look at the tree, call by call. -/
import Derived.Test.YtmgcaohpbaiiaaaGreatDoorVm
set_option linter.unusedSimpArgs false
set_option linter.unusedVariables false
namespace Go.Proofs.YtmgcaohpbaiiaaaGreatDoor
open Go.RowKit Go.Maps Go.Shelf
section
variable {w0 w W W1 : World} {s dk t root B B0 c : Nat} {F F1 : Nat → Prop} {N M : Int} {V D V1 : Int → ByteArray} {S S1 : TS} {l : List Ent} {P : List Nat} {ao : Option Addr}
/-- the look, from the call of Pages on: g is the box with what was found -/
def LookFrom (w0 w : World) (s dk t root : Nat) (D : Int → ByteArray) (N : Int) (S : TS) (B B0 c : Nat) (ao : Option Addr) (l : List Ent) (P : List Nat) (a1 : Option Addr) (c1 : Nat) (a2 : Option Addr) (c2 : Nat) (g : Nat) (o : Obj) (W1 : World) : Prop :=
    Calls Tryz.prog 17 #[.pointer (some ⟨t, 0, none⟩)] W1 fun e w2 => ∃ a3 c3, e = .returned (.tuple #[.slice a3 P.length c3, .int .i64 0]) ∧ w2.heap[g]? = some o ∧
     Calls Tryz.prog 20 #[.pointer (some ⟨s, 0, none⟩), .int .i64 root] w2 fun e w3 => ∃ top, e = .returned (.tuple #[.string top, .int .i64 0]) ∧ w3.heap[g]? = some o ∧
      ∀ W3, Below w3.heap.size w3 W3 → Calls Tryz.prog 21 #[.string top] W3 fun e w4 => e = .returned (.bool false) ∧ w4.heap[g]? = some o ∧
       ∀ W4, Below w4.heap.size w4 W4 → Calls Tryz.prog 14 #[.slice a1 l.length c1, .slice ao l.length c] W4 fun e w5 => e = .returned (.bool true) ∧ w5.heap[g]? = some o ∧
        ∀ W5, Below w5.heap.size w5 W5 → Calls Tryz.prog 23 #[.slice a2 P.length c2] W5 fun e w6 => ∃ a4 c4 n4, e = .returned (.slice a4 n4 c4) ∧ w6.heap[g]? = some o ∧
         ∀ W6, Below w6.heap.size w6 W6 → Calls Tryz.prog 22 #[.slice a3 P.length c3, .slice a4 n4 c4] W6 fun e w7 => e = .returned (.bool true) ∧ w7.heap[g]? = some o ∧
          ∀ W7, Below w7.heap.size w7 W7 → Calls Tryz.prog 24 #[.pointer (some ⟨s, 0, none⟩)] W7 fun e w8 => ∃ a5 c5 n5, e = .returned (.slice a5 n5 c5) ∧ w8.heap[g]? = some o ∧
           ∀ W8, Below w8.heap.size w8 W8 → Calls Tryz.prog 22 #[.slice a3 P.length c3, .slice a5 n5 c5] W8 fun e w9 => e = .returned (.bool true) ∧ w9.heap[g]? = some o ∧
            ∀ W9, Below w9.heap.size w9 W9 → w.heap.size ≤ W9.heap.size ∧ ∃ F V, TWorld w0 W9 s dk t root F 2048 V D (N + 6000) S l P B ∧ Row W9 F B0 (.slice ao l.length c) l
theorem shape_look (h : TWorld w0 w s dk t root F 2048 V D N S l P B) (hcn : cntM (spMany 2048) S = P.length) (hB : B ≤ 39000) (hN : N < 700000000) (hrow : Row w F B0 (.slice ao l.length c) l) :
    Calls Tryz.prog 19 #[.pointer (some ⟨s, 0, none⟩), .int .i64 root] w fun e w1 => ∃ d a1 c1 a2 c2, e = .returned (.agg #[.slice a1 l.length c1, .slice a2 P.length c2, .int .i64 ((d : Int) + 1), .bool true]) ∧
      ∀ o, LookFrom w0 w s dk t root D N S B B0 c ao l P a1 c1 a2 c2 w1.heap.size o (w1.alloc o) := by
  have h0 := h.tin.sin.below.size
  have hsl := h.tin.sin.slt
  have htl := lt_of h.tin.at_.obj
  have hfew := h.tl.few hB
  have hlen := h.tl.len
  have hnd := h.tl.nd
  have hT : (takenS (jFirst 2048).toNat (spMany 2048) S).length = P.length := takenS_len.trans hcn
  refine (found_any h.tin h.tl hB (by omega) h0 hsl (by omega)).mono ?_
  rintro e w1 ⟨F1, d, a1, c1, a2, c2, he, hr1, hr, ho, hout⟩
  refine ⟨d, a1, c1, a2, c2, he, fun o => ?_⟩
  have hLK : LK w0 s dk t root 2048 D S B0 (.slice ao l.length c) l (.slice a1 l.length c1) l (.slice a2 P.length c2) (zN P) w1.heap.size o (.slice none 0 0) [] (w1.alloc o) F1 V (N + 2 + 4 * P.length) := by
    have hBo : Below w1.heap.size w1 (w1.alloc o) := (Below.refl _ w1).alloc (Nat.le_refl _) _
    rw [hT] at hr1
    have hz : (zN P).length = P.length := by simp [zN]
    exact ⟨hr1.tin.made hBo, (hr1.tst.keeps _ _ _ hrow).made hBo, (hr.base (Nat.zero_le _)).made hBo, ⟨by rw [hz, encN_zN]; exact ownsRow_keep (ownsRow_base' ho (Nat.zero_le _)) fun b hb => hBo.block b (ho.lt b hb).2, hout⟩, ⟨heap_alloc_new' w1 o, fun hf => by have := hr1.tin.lt _ hf; omega⟩, OwnZ.nil _ _⟩
  have hs1 : w.heap.size ≤ (w1.alloc o).heap.size := by have := hr1.size; simp; omega
  generalize w1.heap.size = g at *
  generalize w1.alloc o = W1 at *
  clear hr1 hr ho hout hrow
  obtain ⟨pgs, hwk, -, hp⟩ := h.tl.walk (from_ := ⟨#[]⟩) h.fm hB
  obtain rfl := hp rfl
  refine (tpages_any hLK.tin _ pgs hwk (by omega) (by omega)).mono ?_
  rintro e w2 ⟨F2, a3, c3, he, hr2, ho2, hout2⟩
  have hz3 := sortZ_len pgs
  have k2 := (hLK.step hr2).told (v4 := .slice a3 pgs.length c3) (z4 := sortZ pgs) ⟨by rw [hz3]; exact ownsRow_base' ho2 (Nat.zero_le _), hout2⟩
  have hs2 := hr2.size
  refine ⟨a3, c3, he, k2.box.1, ?_⟩
  refine (tgetp_any k2.tin root (hnd.2.1 root hnd.2.2) (by omega)).mono ?_
  rintro e w3 ⟨F3, he, hr3⟩
  have k3 := k2.step hr3
  have hs3 := hr3.size
  refine ⟨_, he, k3.box.1, fun W3 hB3 => ?_⟩
  have q3 := k3.made hB3
  have hs3' := hB3.size
  obtain ⟨kind, q, hpg, hno⟩ := h.tl.top
  obtain ⟨hf, hv, -⟩ := h.tin.shows.page _ _ _ hpg
  rw [hv]
  refine (rsingle_any W3 kind q hf).mono ?_
  rintro e w4 ⟨he, hB4⟩
  rw [decide_eq_false hno] at he
  have k4 := q3.made hB4
  refine ⟨he, k4.box.1, fun W4 hB4' => ?_⟩
  have q4 := k4.made hB4'
  have hs4 := hB4.size
  have hs4' := hB4'.size
  obtain ⟨_, _, e0, er0, -⟩ := q4.r0.parts
  simp at e0
  obtain ⟨rfl, rfl⟩ := e0
  obtain ⟨_, _, e1, er1, -⟩ := q4.r1.parts
  simp at e1
  obtain ⟨rfl, rfl⟩ := e1
  refine (rsame_any W4 a1 ao c1 c l l er1 er0 (by omega) (by omega)).mono ?_
  rintro e w5 ⟨he, hB5⟩
  have k5 := q4.made hB5
  refine ⟨by simpa using he, k5.box.1, fun W5 hB5' => ?_⟩
  have q5 := k5.made hB5'
  have hs5 := hB5.size
  have hs5' := hB5'.size
  have hzn : (zN pgs).length = pgs.length := by simp [zN]
  have z2 := q5.r2
  rw [← hzn] at z2 ⊢
  refine (rsorted_any W5 a2 c2 (zN pgs) z2.zrow (by omega)).mono ?_
  rintro e w6 ⟨a4, c4, he, hz4, hB6⟩
  have k6 := q5.made hB6
  refine ⟨a4, c4, _, he, k6.box.1, fun W6 hB6' => ?_⟩
  have q6 := k6.made hB6'
  have hs6 := hB6.size
  have hs6' := hB6'.size
  have z3 := q6.r3
  rw [hzn]
  rw [← hz3] at z3 ⊢
  have hzr := congrArg List.length (sort_ris hnd.1)
  refine (tsame_ints W6 a3 a4 c3 c4 (sortZ pgs) (risZ (zN pgs)) z3.zrow (hz4.made hB6') (by omega) (by omega)).mono ?_
  rintro e w7 ⟨he, hB7⟩
  rw [decide_eq_true (sort_ris hnd.1)] at he
  have k7 := q6.made hB7
  refine ⟨he, k7.box.1, fun W7 hB7' => ?_⟩
  have q7 := k7.made hB7'
  have hs7 := hB7.size
  have hs7' := hB7'.size
  refine (taken_own q7.tin (by omega)).mono ?_
  rintro e w8 ⟨F8, a5, c5, he, hr8, ho8, hout8⟩
  have k8 := q7.step hr8
  have hs8 := hr8.size
  refine ⟨a5, c5, _, he, k8.box.1, fun W8 hB8' => ?_⟩
  have q8 := k8.made hB8'
  have hs8' := hB8'.size
  have z8 := q8.r3
  rw [← hz3] at z8
  have hst := sort_taken hnd.1 (h.tl.mem_taken hcn)
  have hzt := congrArg List.length hst
  refine (tsame_ints W8 a3 a5 c3 c5 (sortZ pgs) (zN (takenS (jFirst 2048).toNat (spMany 2048) S)) z8.zrow ((zrow_of (cap := c5) ho8).made hB8') (by omega) (by omega)).mono ?_
  rintro e w9 ⟨he, hB9⟩
  rw [decide_eq_true hst] at he
  have k9 := q8.made hB9
  refine ⟨he, k9.box.1, fun W9 hB9' => ?_⟩
  have q9 := k9.made hB9'
  have hs9 := hB9.size
  have hs9' := hB9'.size
  have hti := q9.tin
  refine ⟨by omega, F8, V, ⟨⟨hti.sin.mono (by omega), hti.lt, hti.at_, hti.shows⟩, h.tl⟩, q9.r0⟩
end
end Go.Proofs.YtmgcaohpbaiiaaaGreatDoor
