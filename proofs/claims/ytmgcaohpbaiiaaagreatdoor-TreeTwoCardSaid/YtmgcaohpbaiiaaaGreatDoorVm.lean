/- TreeShape: what lies by while a tree is looked at; a tree stands by while another turns. -/
import Derived.Test.YtmgcaohpbaiiaaaGreatDoorVl
import Derived.Test.YtmgcaohpbaiiaaaGreatDoorTPlaysWalk
set_option linter.unusedSimpArgs false
set_option linter.unusedVariables false
namespace Go.Proofs.YtmgcaohpbaiiaaaGreatDoor
open Go.RowKit Go.Maps Go.Shelf
section
variable {f m root B : Nat} {S S1 : TS} {l : List Ent} {P Q R : List Nat}
theorem TreeL.frame (h : TreeL f m S root l P B) (k : Ext f m S S1 Q R) (ho : ∀ x ∈ P, x ∉ Q) : TreeL f m S1 root l P B ∧ ∀ x ∈ P, x ∉ R := by
  have hnd := h.nd
  refine ⟨?_, fun x hx => (k.apart (hnd.2.1 x hx) (ho x hx)).1⟩
  obtain ⟨d, L, h1, h2, h3, h4⟩ := h
  subst h3
  have hr := k.apart (hnd.2.1 root (by simp)) (ho root (by simp))
  refine ⟨d, L, ⟨⟨hr.2.2.trans h1.lay.pg, h1.lay.ok, h1.lay.lies.ext k fun x hx => ⟨hnd.2.1 x (List.mem_cons_of_mem _ hx), ho x (List.mem_cons_of_mem _ hx)⟩, h1.lay.good, h1.lay.nd, fun x hx => (k.apart (hnd.2.1 x hx) (ho x hx)).2.1⟩, h1.two⟩, h2, rfl, h4⟩
end
/-- a row of whole numbers of one's own, none of the space's -/
structure OwnZ (w : World) (F : Nat → Prop) (v : Value) (l : List Int) : Prop where
  own : w.ownsRow 0 3 1 v l.length (l.map (Value.int .i64))
  out : ∀ b, v.ownBlock = some b → ¬ F b
theorem OwnZ.zrow {w : World} {F : Nat → Prop} {a : Option Addr} {c : Nat} {l : List Int} (h : OwnZ w F (.slice a l.length c) l) : ZRow w a l := zrow_of h.own
theorem OwnZ.nil (w : World) (F : Nat → Prop) : OwnZ w F (.slice none 0 0) [] := ⟨World.ownsRow_nil _ _ _ _, fun b hb => by simp [Value.ownBlock] at hb⟩
theorem encN_zN (l : List Nat) : (zN l).map (Value.int .i64) = l.map encN := by unfold zN; rw [List.map_map]; rfl
section
variable {w0 w W W1 : World} {s dk t root : Nat} {F F1 : Nat → Prop} {n N M : Int} {V D V1 : Int → ByteArray} {S S1 : TS} {l l1 : List Ent} {v v2 v3 : Value} {z z2 z3 : List Int} {B0 g : Nat} {o : Obj}
theorem OwnZ.step (h : OwnZ W F v z) (k : TSt w0 W W1 s dk F F1 n V1 D M) : OwnZ W1 F1 v z :=
  ⟨ownsRow_keep h.own fun b hb => k.upd.block b (h.own.lt b hb).2 (h.out b hb), fun b hb hf => by
    rcases k.new b hf with h4 | h4
    · exact h.out b hb h4
    · have := (h.own.lt b hb).2; omega⟩
theorem OwnZ.made (h : OwnZ W F v z) (hB : Below W.heap.size W W1) : OwnZ W1 F v z := ⟨ownsRow_keep h.own fun b hb => hB.block b (h.own.lt b hb).2, h.out⟩
/-- what lies by while a tree is looked at: the entries, the entries found, the pages found, the answer's box, the pages told -/
structure LK (w0 : World) (s dk t root : Nat) (n : Int) (D : Int → ByteArray) (S : TS) (B0 : Nat) (v0 : Value) (l : List Ent) (v1 : Value) (l1 : List Ent) (v2 : Value) (z2 : List Int) (g : Nat) (o : Obj) (v3 : Value) (z3 : List Int) (w : World) (F : Nat → Prop) (V : Int → ByteArray) (N : Int) : Prop where
  tin : TIn w0 w s dk F n V D N t root S
  r0 : Row w F B0 v0 l
  r1 : Row w F 0 v1 l1
  r2 : OwnZ w F v2 z2
  box : w.heap[g]? = some o ∧ ¬ F g
  r3 : OwnZ w F v3 z3
variable {v0 v1 : Value}
theorem LK.made (h : LK w0 s dk t root n D S B0 v0 l v1 l1 v2 z2 g o v3 z3 W F V N) (hB : Below W.heap.size W W1) : LK w0 s dk t root n D S B0 v0 l v1 l1 v2 z2 g o v3 z3 W1 F V N :=
  ⟨h.tin.made hB, h.r0.made hB, h.r1.made hB, h.r2.made hB, ⟨(hB.block g (lt_of h.box.1)).trans h.box.1, h.box.2⟩, h.r3.made hB⟩
theorem LK.step (h : LK w0 s dk t root n D S B0 v0 l v1 l1 v2 z2 g o v3 z3 W F V N) (k : TRun w0 W W1 s dk F F1 n V D M t root S) : LK w0 s dk t root n D S B0 v0 l v1 l1 v2 z2 g o v3 z3 W1 F1 V M :=
  ⟨k.tin, k.tst.keeps _ _ _ h.r0, k.tst.keeps _ _ _ h.r1, h.r2.step k.tst, ⟨(k.tst.upd.block g (lt_of h.box.1) h.box.2).trans h.box.1, fun hf => by
    rcases k.tst.new g hf with h4 | h4
    · exact h.box.2 h4
    · have := lt_of h.box.1; omega⟩, h.r3.step k.tst⟩
theorem LK.told {v4 : Value} {z4 : List Int} (h : LK w0 s dk t root n D S B0 v0 l v1 l1 v2 z2 g o v3 z3 W F V N) (h4 : OwnZ W F v4 z4) : LK w0 s dk t root n D S B0 v0 l v1 l1 v2 z2 g o v4 z4 W F V N := ⟨h.tin, h.r0, h.r1, h.r2, h.box, h4⟩
end
end Go.Proofs.YtmgcaohpbaiiaaaGreatDoor
