/- A run over a tree in a space: what has been reached, and the rows that stay. -/
import Derived.Test.YtmgcaohpbaiiaaaGreatDoorTMod
set_option linter.unusedSimpArgs false
set_option linter.unusedVariables false
namespace Go.Proofs.YtmgcaohpbaiiaaaGreatDoor
open Go.RowKit Go.Maps Go.Shelf

structure TRun (w0 w W : World) (s d : Nat) (F F' : Nat → Prop) (n : Int) (V D : Int → ByteArray) (N : Int) (t root : Nat) (S : TS) : Prop where
  tin : TIn w0 W s d F' n V D N t root S
  tst : TSt w0 w W s d F F' n V D N
/-- a row of entries of one's own, none of the space's -/
structure Row (W : World) (F : Nat → Prop) (B : Nat) (v : Value) (l : List Ent) : Prop where
  own : EOwn W B v l
  out : ∀ b, v.ownBlock = some b → ¬ F b
def Keeps (W : World) (F : Nat → Prop) (W' : World) (F' : Nat → Prop) : Prop := ∀ B v l, Row W F B v l → Row W' F' B v l
section
variable {w0 w W W1 : World} {s d t root B : Nat} {F F' F1 : Nat → Prop} {n N M : Int} {V D V1 : Int → ByteArray} {S S1 : TS} {v : Value} {l : List Ent}
theorem TIn.run (h : TIn w0 w s d F n V D N t root S) : TRun w0 w w s d F F n V D N t root S := ⟨h, h.refl⟩
theorem TRun.made (h : TRun w0 w W s d F F' n V D N t root S) (hB : Below W.heap.size W W1) : TRun w0 w W1 s d F F' n V D N t root S := ⟨h.tin.made hB, h.tst.made hB⟩
theorem TRun.step (h : TRun w0 w W s d F F' n V D N t root S) (k : TSt w0 W W1 s d F' F1 n V1 D M) (hS : Shows n V1 S1) : TRun w0 w W1 s d F F1 n V1 D M t root S1 := ⟨h.tin.step k hS, h.tst.trans k⟩
theorem TRun.size (h : TRun w0 w W s d F F' n V D N t root S) : w.heap.size ≤ W.heap.size := h.tst.upd.size
theorem Row.made (h : Row W F B v l) (hB : Below W.heap.size W W1) : Row W1 F B v l := ⟨h.own.made hB, h.out⟩
theorem Row.base {B' : Nat} (h : Row W F B v l) (hb : B' ≤ B) : Row W F B' v l := ⟨h.own.base hb, h.out⟩
theorem Row.new (h : TRun w0 w W s d F F' n V D N t root S) (ho : EOwn W1 W.heap.size v l) : Row W1 F' w.heap.size v l :=
  ⟨ho.base h.size, fun b hb hf => by
    have h1 := (ho.lt b hb).1
    have h2 := h.tin.lt b hf
    omega⟩
theorem Row.parts (h : Row W F B v l) : ∃ ao c, v = .slice ao l.length c ∧ ERow W ao l ∧ (∀ a, ao = some a → ∃ g off, a = ⟨g, off, none⟩) ∧ (ao = none → l = [] ∧ c = 0) ∧ l.length ≤ c := by
  obtain ⟨ao, c, rfl, hr, -⟩ := h.own.parts
  refine ⟨ao, c, rfl, hr, fun a e => ?_, fun e => ?_, ?_⟩
  · subst e
    obtain ⟨g, cur, rfl, -⟩ := h.own.block
    exact ⟨g, 0, rfl⟩
  · subst e
    rcases h.own.2 with ⟨hv, h0⟩ | ⟨g, cap, cur, hv, _⟩
    · simp at hv
      exact ⟨List.length_eq_zero_iff.1 h0, hv.2⟩
    · simp at hv
  · rcases h.own.2 with ⟨hv, h0⟩ | ⟨g, cap, cur, hv, hb, hg, hn, _⟩
    · simp at hv; omega
    · simp at hv; omega
theorem Keeps.refl (W : World) (F : Nat → Prop) : Keeps W F W F := fun _ _ _ h => h
theorem Keeps.trans {W2 : World} {F2 : Nat → Prop} (h : Keeps W F W1 F1) (k : Keeps W1 F1 W2 F2) : Keeps W F W2 F2 := fun B v l hr => k B v l (h B v l hr)
theorem Keeps.made (h : Keeps W F W1 F1) {W2 : World} (hB : Below W1.heap.size W1 W2) : Keeps W F W2 F1 := fun B v l hr => (h B v l hr).made hB
theorem TSt.keeps (k : TSt w0 W W1 s d F F1 n V1 D N) : Keeps W F W1 F1 := fun B v l hr => by
  obtain ⟨a, b⟩ := k.row hr.own hr.out
  exact ⟨a, b⟩
theorem load_run (h : TRun w0 w W s d F F' n V D N t root S) (at_ kind : Nat) (l : List Ent) (hp : loadM S at_ = some (kind, l)) (hN : N < 2305843009213693000) :
    Calls Tryz.prog 39 #[.pointer (some ⟨t, 0, none⟩), .int .i64 at_] W fun e w' => ∃ F1 v, e = .returned (.tuple #[.int .i64 kind, v]) ∧ TRun w0 w w' s d F F1 n V D (N + 4) t root S ∧ Row w' F1 w.heap.size v l ∧ Keeps W F' w' F1 := by
  refine (tload_any h.tin at_ kind l hp hN).mono ?_
  rintro e w' ⟨F1, v, he, hst, ho, hout⟩
  exact ⟨F1, v, he, h.step hst h.tin.shows, ⟨ho.base h.size, hout⟩, hst.keeps⟩
theorem store_run (h : TRun w0 w W s d F F' n V D N t root S) (at_ kind : Nat) (l : List Ent) (ao : Option Addr) (c : Nat) (hr : ERow W ao l) (hs : storeM (jFirst n).toNat (spMany n) S at_ kind l = some S1) (hN : N < 2305843009213693000) :
    Calls Tryz.prog 29 #[.pointer (some ⟨t, 0, none⟩), .int .i64 at_, .int .i64 kind, .slice ao l.length c] W fun e w' => ∃ F1 V1, e = .returned (.tuple #[]) ∧ TRun w0 w w' s d F F1 n V1 D (N + 4) t root S1 ∧ Keeps W F' w' F1 := by
  refine (tstore_any h.tin at_ kind l ao c hr hs hN).mono ?_
  rintro e w' ⟨F1, V1, he, hst, hsh⟩
  exact ⟨F1, V1, he, h.step hst hsh, hst.keeps⟩
theorem alloc_run (h : TRun w0 w W s d F F' n V D N t root S) (at_ : Nat) (ha : allocM (jFirst n).toNat (spMany n) S = some (at_, S1)) (hN : N < 2305843009213693000) :
    Calls Tryz.prog 28 #[.pointer (some ⟨t, 0, none⟩)] W fun e w' => ∃ F1 V1, e = .returned (.int .i64 at_) ∧ TRun w0 w w' s d F F1 n V1 D (N + 4) t root S1 ∧ Keeps W F' w' F1 := by
  refine (talloc_any h.tin at_ ha hN).mono ?_
  rintro e w' ⟨F1, V1, he, hst, hsh⟩
  exact ⟨F1, V1, he, h.step hst hsh, hst.keeps⟩
theorem rel_run (h : TRun w0 w W s d F F' n V D N t root S) (at_ : Nat) (hr : relM (jFirst n).toNat (spMany n) S at_ = some S1) (hN : N < 2305843009213693000) :
    Calls Tryz.prog 45 #[.pointer (some ⟨s, 0, none⟩), .int .i64 at_] W fun e w' => e = .returned (.int .i64 0) ∧ ∃ F1 V1, TRun w0 w w' s d F F1 n V1 D (N + 4) t root S1 ∧ Keeps W F' w' F1 := by
  refine (trel_any h.tin at_ hr hN).mono ?_
  rintro e w' ⟨he, F1, V1, hst, hsh⟩
  exact ⟨he, F1, V1, h.step hst hsh, hst.keeps⟩
theorem TRun.mono (h : TRun w0 w W s d F F' n V D N t root S) (hle : N ≤ M) : TRun w0 w W s d F F' n V D M t root S := ⟨⟨h.tin.sin.mono hle, h.tin.lt, h.tin.at_, h.tin.shows⟩, h.tst.mono hle⟩
theorem okM_lt (h1 : 64 ≤ n) (h2 : n ≤ 2048) {at_ : Nat} (h : okM (jFirst n).toNat (spMany n) S at_ = true) : at_ < 2048 := by
  obtain ⟨a, b, -⟩ := okM_bd h
  obtain ⟨-, e, -⟩ := first_nat h1 h2
  omega
theorem loadM_ok {kind at_ : Nat} (h : Shows n V S) (hp : loadM S at_ = some (kind, l)) : Fine kind l ∧ okM (jFirst n).toNat (spMany n) S at_ = true := by
  obtain ⟨p1, p2, p3⟩ := h.page _ _ _ (loadM_some hp).1
  exact ⟨p1, p3⟩
end
end Go.Proofs.YtmgcaohpbaiiaaaGreatDoor
