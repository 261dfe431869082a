/- What lies on the pages of a space: found. -/
import Derived.Test.YtmgcaohpbaiiaaaGreatDoorVh
import Derived.Test.YtmgcaohpbaiiaaaGreatDoorVe
set_option linter.unusedSimpArgs false
set_option linter.unusedVariables false
namespace Go.Proofs.YtmgcaohpbaiiaaaGreatDoor
open Go.RowKit Go.Maps Go.Shelf
section
variable {w0 w W : World} {s dk t root B : Nat} {F : Nat → Prop} {n N : Int} {V D : Int → ByteArray} {S S1 : TS} {l : List Ent} {P : List Nat}
/-- a space and what lies on its pages, whatever trees are called for -/
structure GIn (w0 w : World) (s d : Nat) (F : Nat → Prop) (n : Int) (V D : Int → ByteArray) (N : Int) (S : TS) : Prop where
  sin : SIn w0 w s d F n V D N
  lt : ∀ b, F b → b < w.heap.size
  shows : Shows n V S
structure GRun (w0 w W : World) (s d : Nat) (F F' : Nat → Prop) (n : Int) (V D : Int → ByteArray) (N : Int) (S : TS) : Prop where
  gin : GIn w0 W s d F' n V D N S
  tst : TSt w0 w W s d F F' n V D N
theorem TIn.g (h : TIn w0 w s dk F n V D N t root S) : GIn w0 w s dk F n V D N S := ⟨h.sin, h.lt, h.shows⟩
theorem GIn.bd (h : GIn w0 w s dk F n V D N S) : 64 ≤ n ∧ n ≤ 2048 := h.sin.bd
section
variable {W1 : World} {F' F1 : Nat → Prop} {V1 : Int → ByteArray} {M : Int}
theorem GIn.made (h : GIn w0 w s dk F n V D N S) (hB : Below w.heap.size w W1) : GIn w0 W1 s dk F n V D N S := ⟨h.sin.made hB, fun b hb => by have := h.lt b hb; have := hB.size; omega, h.shows⟩
theorem GIn.run (h : GIn w0 w s dk F n V D N S) : GRun w0 w w s dk F F n V D N S := ⟨h, TSt.refl h.sin h.lt⟩
theorem GRun.made (h : GRun w0 w W s dk F F' n V D N S) (hB : Below W.heap.size W W1) : GRun w0 w W1 s dk F F' n V D N S := ⟨h.gin.made hB, h.tst.made hB⟩
theorem GRun.step (h : GRun w0 w W s dk F F' n V D N S) (k : TSt w0 W W1 s dk F' F1 n V D M) : GRun w0 w W1 s dk F F1 n V D M S := ⟨⟨k.sin, k.lt, h.gin.shows⟩, h.tst.trans k⟩
theorem GRun.join (h : GRun w0 w W s dk F F' n V D N S) (k : GRun w0 W W1 s dk F' F1 n V1 D M S1) : GRun w0 w W1 s dk F F1 n V1 D M S1 := ⟨k.gin, h.tst.trans k.tst⟩
theorem GRun.size (h : GRun w0 w W s dk F F' n V D N S) : w.heap.size ≤ W.heap.size := h.tst.upd.size
theorem GRun.cell (h : GRun w0 w W s dk F F' n V D N S) {g : Nat} (h0 : w0.heap.size ≤ w.heap.size) (hg : w.heap.size ≤ g) (hf : ¬ F' g) (hgs : g ≠ s) (i : Nat) (v : Value) : GRun w0 w (W.setCell ⟨g, i, none⟩ v) s dk F F' n V D N S := by
  have h1 := h.tst.cell h0 hg hf hgs i v
  exact ⟨⟨h1.sin, h1.lt, h.gin.shows⟩, h1⟩
theorem GRun.turnG {B : World} {G : Nat → Prop} (h : GRun w0 w W s dk F F' n V D N S) (h0 : w0.heap.size ≤ w.heap.size) (hu : Upd G W B) (hG : ∀ b, G b → w.heap.size ≤ b ∧ ¬ F' b ∧ b ≠ s) : GRun w0 w B s dk F F' n V D N S := by
  have hs := h.gin.sin.turnG hu fun b hb => ⟨by have := (hG b hb).1; omega, (hG b hb).2⟩
  have hl : ∀ b, F' b → b < B.heap.size := fun b hb => by have := h.gin.lt b hb; have := hu.size; omega
  exact ⟨⟨hs, hl, h.gin.shows⟩, hs, h.tst.upd.then hu fun x hx hg => by have := (hG x hg).1; omega, h.tst.new, hl⟩
theorem GRun.tr (k : GRun w0 w W s dk F F' n V D N S) (h : TAt w F t s root) : TRun w0 w W s dk F F' n V D N t root S := ⟨⟨k.gin.sin, k.gin.lt, h.step k.tst, k.gin.shows⟩, k.tst⟩
end
/-- a page that is taken, as the space gives it -/
theorem ggetp_any (h : GIn w0 w s dk F n V D N S) (k : Nat) (hok : okM (jFirst n).toNat (spMany n) S k = true) (hN : N < 900000000) :
    Calls Tryz.prog 20 #[.pointer (some ⟨s, 0, none⟩), .int .i64 k] w fun e w' => ∃ F', e = .returned (.tuple #[.string (V k), .int .i64 0]) ∧ GRun w0 w w' s dk F F' n V D (N + 4) S := by
  have htk := h.shows.taken h.bd.1 h.bd.2 hok
  have hG := get_sp h.sin k (by omega)
  rw [htk] at hG
  simp only [if_true] at hG
  refine hG.mono ?_
  rintro e w' ⟨he, hS⟩
  exact ⟨_, he, h.run.step (TSt.of hS h.lt)⟩
theorem tgetp_any (h : TIn w0 w s dk F n V D N t root S) (k : Nat) (hok : okM (jFirst n).toNat (spMany n) S k = true) (hN : N < 900000000) :
    Calls Tryz.prog 20 #[.pointer (some ⟨s, 0, none⟩), .int .i64 k] w fun e w' => ∃ F', e = .returned (.tuple #[.string (V k), .int .i64 0]) ∧ TRun w0 w w' s dk F F' n V D (N + 4) t root S := by
  refine (ggetp_any h.g k hok hN).mono ?_
  rintro e w' ⟨F', he, hr⟩
  exact ⟨F', he, hr.tr h.at_⟩
/-- a row of texts: the pages done so far -/
def TxRow (w : World) (g : Nat) (V : Int → ByteArray) (T : List Nat) : Prop := ∀ k ∈ T, k < 2048 ∧ w.cell? ⟨g, k, none⟩ = some (.string (V k))
theorem TxRow.pages {g : Nat} {T : List Nat} (h : TxRow w g V T) (hs : Shows n V S) (hm : ∀ k ∈ P, k ∈ T) : PgRow S w g P := fun k hk => ⟨(h k (hm k hk)).1, fun kind l e => by
  rw [← (hs.page _ _ _ (loadM_some e).1).2.1]
  exact (h k (hm k hk)).2⟩
theorem make_texts (W : World) : (Instr.makeSlice 96 (.int .i64 2048) (.int .i64 2048)).run Tryz.prog W = .ok (.slice (some ⟨W.heap.size, 0, none⟩) 2048 2048) (W.alloc (.cells (madeCells (Value.string ⟨#[]⟩).cells 2048) 9)) := by
  obtain ⟨i0, hi, hz0, hz1, hz2⟩ := info_parts info_str
  have hmk := run_make (P := Tryz.prog) W 96 9 i0 (.string ⟨#[]⟩) Tryz.underlying96 hi hz0 .i64 .i64 2048 2048 (by omega) (Int.le_refl _) (by rw [hz2]; omega) (by omega)
  rw [hz1, Nat.mul_one] at hmk
  exact hmk
/-- which pages are taken: in a row of one's own, apart from the space -/
theorem gtaken_own (h : GIn w0 w s dk F n V D N S) (hN : N < 900000000) : Calls Tryz.prog 24 #[.pointer (some ⟨s, 0, none⟩)] w fun e w' => ∃ F' a cap, e = .returned (.slice a (zN (takenS (jFirst n).toNat (spMany n) S)).length cap) ∧ GRun w0 w w' s dk F F' n V D (N + 2) S ∧
    w'.ownsRow w.heap.size 3 1 (.slice a (zN (takenS (jFirst n).toNat (spMany n) S)).length cap) (zN (takenS (jFirst n).toNat (spMany n) S)).length ((zN (takenS (jFirst n).toNat (spMany n) S)).map encZ) ∧ ∀ b, (Value.slice a (zN (takenS (jFirst n).toNat (spMany n) S)).length cap).ownBlock = some b → ¬ F' b := by
  have := takenl_sp h.sin (by omega)
  rw [takenTo_eq h.shows.map h.bd.1 h.bd.2] at this
  refine this.mono ?_
  rintro e w' ⟨a, cap, w1, he, hS, hB, ho⟩
  have ht := TSt.of hS h.lt
  exact ⟨_, a, cap, he, (h.run.step ht).made hB, ownsRow_base' ho ht.upd.size, fun b hb hf => by
    have h1 := (ho.lt b hb).1
    have h2 := ht.lt b hf
    omega⟩
theorem taken_own (h : TIn w0 w s dk F n V D N t root S) (hN : N < 900000000) : Calls Tryz.prog 24 #[.pointer (some ⟨s, 0, none⟩)] w fun e w' => ∃ F' a cap, e = .returned (.slice a (zN (takenS (jFirst n).toNat (spMany n) S)).length cap) ∧ TRun w0 w w' s dk F F' n V D (N + 2) t root S ∧
    w'.ownsRow w.heap.size 3 1 (.slice a (zN (takenS (jFirst n).toNat (spMany n) S)).length cap) (zN (takenS (jFirst n).toNat (spMany n) S)).length ((zN (takenS (jFirst n).toNat (spMany n) S)).map encZ) ∧ ∀ b, (Value.slice a (zN (takenS (jFirst n).toNat (spMany n) S)).length cap).ownBlock = some b → ¬ F' b := by
  refine (gtaken_own h.g hN).mono ?_
  rintro e w' ⟨F', a, cap, he, hr, ho⟩
  exact ⟨F', a, cap, he, hr.tr h.at_, ho⟩
abbrev zeroFound : Obj := .cells #[.slice none 0 0, .slice none 0 0, .int .i64 0, .bool false] 50 (0, 0)
/-- found's loop: i pages of T are laid; br: the answer's cell, g: the texts -/
structure FJ (w0 w wr : World) (s dk : Nat) (F F1 : Nat → Prop) (n : Int) (V D : Int → ByteArray) (N : Int) (S : TS) (br g : Nat) (T : List Nat) (a : Option Addr) (cap : Nat) (i : Nat) : Prop where
  run : GRun w0 w wr s dk F F1 n V D N S
  res : wr.heap[br]? = some zeroFound
  txt : ∃ cur, wr.heap[g]? = some (.cells cur 9 (0, 0)) ∧ cur.size = 2048 ∧ ∀ k ∈ T.take i, cur[k]? = some (.string (V k))
  row : wr.ownsRow (g + 1) 3 1 (.slice a T.length cap) T.length ((zN T).map encZ)
  out : ¬ F1 br ∧ ¬ F1 g ∧ ∀ b, (Value.slice a T.length cap).ownBlock = some b → ¬ F1 b
section
variable {br g i cap : Nat} {T : List Nat} {a : Option Addr} {wr : World} {F1 : Nat → Prop}
theorem FJ.get (h : FJ w0 w wr s dk F F1 n V D N S br g T a cap i) (hi : i < T.length) (hok : okM (jFirst n).toNat (spMany n) S T[i] = true) (hN : N < 900000000) :
    Calls Tryz.prog 20 #[.pointer (some ⟨s, 0, none⟩), .int .i64 T[i]] wr fun e w' => ∃ F2, e = .returned (.tuple #[.string (V T[i]), .int .i64 0]) ∧ FJ w0 w w' s dk F F2 n V D (N + 4) S br g T a cap i := by
  refine (ggetp_any h.run.gin T[i] hok hN).mono ?_
  rintro e w' ⟨F2, he, hr⟩
  obtain ⟨cur, t1, t2, t3⟩ := h.txt
  have k := hr.tst
  have keepb : ∀ b, b < wr.heap.size → ¬ F1 b → ¬ F2 b := fun b hb hf h2 => by
    rcases k.new b h2 with h4 | h4
    · exact hf h4
    · omega
  refine ⟨F2, he, h.run.join hr, (k.upd.block br (lt_of h.res) h.out.1).trans h.res, ⟨cur, (k.upd.block g (lt_of t1) h.out.2.1).trans t1, t2, t3⟩, ownsRow_keep h.row fun b hb => k.upd.block b (h.row.lt b hb).2 (h.out.2.2 b hb), keepb br (lt_of h.res) h.out.1, keepb g (lt_of t1) h.out.2.1, fun b hb => keepb b (h.row.lt b hb).2 (h.out.2.2 b hb)⟩
theorem FJ.put (h : FJ w0 w wr s dk F F1 n V D N S br g T a cap i) (hi : i < T.length) (hT : T[i] < 2048) (h0 : w0.heap.size ≤ w.heap.size) (hbr : br ≠ g) (hg : w.heap.size ≤ g) (hgs : g ≠ s) :
    (∃ x, wr.cell? ⟨g, T[i], none⟩ = some x) ∧ wr.frozen? ⟨g, T[i], none⟩ = false ∧ FJ w0 w (wr.setCell ⟨g, T[i], none⟩ (.string (V T[i]))) s dk F F1 n V D N S br g T a cap (i + 1) := by
  obtain ⟨cur, t1, t2, t3⟩ := h.txt
  refine ⟨⟨cur[T[i]]'(by omega), by rw [cell_of t1]; simp [t2, hT]⟩, frozen_of t1 _, h.run.cell h0 hg h.out.2.1 hgs _ _, (setCell_other hbr).trans h.res, ⟨_, heap_setCell_same t1 _ _, by simp [t2], fun k hk => ?_⟩, ownsRow_keep h.row fun b hb => setCell_other (by have := (h.row.lt b hb).1; omega), h.out⟩
  rw [List.take_succ_eq_append_getElem hi] at hk
  by_cases he : T[i] = k
  · rw [← he]
    simp [t2, hT]
  · rw [Array.getElem?_setIfInBounds_ne he]
    rcases List.mem_append.1 hk with hk | hk
    · exact t3 k hk
    · exact absurd (List.mem_singleton.1 hk).symm he
end
end
end Go.Proofs.YtmgcaohpbaiiaaaGreatDoor
