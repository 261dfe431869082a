/- What a tree's page numbers and entries come to, as plain data; how a space shows them; a step in memory. -/
import Derived.Test.YtmgcaohpbaiiaaaGreatDoorTCut
set_option linter.unusedSimpArgs false
set_option linter.unusedVariables false
namespace Go.Proofs.YtmgcaohpbaiiaaaGreatDoor
open Go.RowKit Go.Maps Go.Shelf

theorem setCell_other {w : World} {b g i : Nat} {u : Value} (h : g ≠ b) : (w.setCell ⟨b, i, none⟩ u).heap[g]? = w.heap[g]? := Below.heap_setCell w ⟨b, i, none⟩ u g h
structure MapIs (n : Int) (V : Int → ByteArray) (f : Nat → Bool) : Prop where
  bits : ∀ j, j < spMany n → bitB (V (jFirst n)) (j + 1) = f j
section
variable {n : Int} {V : Int → ByteArray} {f : Nat → Bool} {k : Nat}
theorem MapIs.next (h : MapIs n V f) (hk : k < spMany n) (ha : ∀ j, j < k → f j = true) (hf : f k = false) : spNext n (V (jFirst n)) = some k :=
  next_some hk (fun j hj => (h.bits j (by omega)).trans (ha j hj)) ((h.bits k hk).trans hf)
theorem MapIs.full (h : MapIs n V f) (ha : ∀ j, j < spMany n → f j = true) : spNext n (V (jFirst n)) = none :=
  next_none fun j hj => (h.bits j hj).trans (ha j hj)
theorem MapIs.taken (h : MapIs n V f) (h1 : 64 ≤ n) (h2 : n ≤ 2048) (hk : k < spMany n) : spTaken n V (jFirst n + 1 + (k : Int)) = if f k then 0 else 8 := by
  obtain ⟨m1, m2, m3⟩ := spMany_bd h1 h2
  unfold spTaken
  rw [if_neg (by omega), show (jFirst n + 1 + (k : Int) - jFirst n).toNat = k + 1 by omega, h.bits k hk]
theorem MapIs.got (h : MapIs n V f) (hk : k < spMany n) (hsz : (V (jFirst n)).size = 256) (hm : spMany n ≤ 1022) (hf : f k = false) : MapIs n (spGot n V k) (fun j => f j || decide (j = k)) := by
  refine ⟨fun j hj => ?_⟩
  have : spGot n V k (jFirst n) = flipB (V (jFirst n)) (k + 1) := by unfold spGot; rw [upd_other _ (by omega), upd_same]
  rw [this, bitB_flip _ (by omega)]
  by_cases e : j = k
  · subst e
    rw [if_pos rfl, h.bits j hj, hf]; simp
  · rw [if_neg (by omega), h.bits j hj]; simp [e]
theorem MapIs.back (h : MapIs n V f) (hk : k < spMany n) (hsz : (V (jFirst n)).size = 256) (hm : spMany n ≤ 1022) (hf : f k = true) :
    MapIs n (upd V (jFirst n) (flipB (V (jFirst n)) (k + 1))) (fun j => f j && !decide (j = k)) := by
  refine ⟨fun j hj => ?_⟩
  rw [upd_same, bitB_flip _ (by omega)]
  by_cases e : j = k
  · subst e
    rw [if_pos rfl, h.bits j hj, hf]; simp
  · rw [if_neg (by omega), h.bits j hj]; simp [e]
theorem MapIs.congr {g : Nat → Bool} (h : MapIs n V f) (hg : ∀ j, j < spMany n → f j = g j) : MapIs n V g := ⟨fun j hj => (h.bits j hj).trans (hg j hj)⟩
end
theorem SIn.lt {w0 w : World} {s d : Nat} {F : Nat → Prop} {n N : Int} {V D : Int → ByteArray} (h : SIn w0 w s d F n V D N) : SIn w0 w s d (fun b => F b ∧ b < w.heap.size) n V D N := by
  obtain ⟨p, S, hP, hS, hc⟩ := h.ex
  exact ⟨⟨p, S, ⟨hP.pat.lt, fun b hb => hP.new b hb.1, hP.below⟩, hS, hc⟩, h.new, fun hx => h.out hx.1, h.glob⟩
theorem SIn.setCell {w0 w : World} {s d g : Nat} {F : Nat → Prop} {n N : Int} {V D : Int → ByteArray} (h : SIn w0 w s d F n V D N) (hn : w0.heap.size ≤ g) (ho : ¬ F g) (hs : g ≠ s) (i : Nat) (v : Value) : SIn w0 (w.setCell ⟨g, i, none⟩ v) s d F n V D N := by
  obtain ⟨p, S, hP, hS, hc⟩ := h.ex
  refine ⟨⟨p, S, ⟨hP.pat.upd (G := fun b => b = g) (Upd.setCell (F := fun b => b = g) (Upd.refl _ w) ⟨g, i, none⟩ (fun _ => rfl) v) (fun b hb e => ho (e ▸ hb)), hP.new, hP.below.setCell hn v⟩, hS, (setCell_other (fun e => hs e.symm)).trans hc⟩, h.new, h.out, h.glob⟩

/-! ### a tree's pages, as plain data -/
/-- pages that hold entries (kind, list), and which of the user's pages are taken -/
structure TS where
  pg : Nat → Option (Nat × List Ent)
  used : Nat → Bool
/-- f: the number ahead of the user's first page; m: how many there are -/
def nextM (m : Nat) (S : TS) : Option Nat := (List.range m).find? fun j => !S.used j
def allocM (f m : Nat) (S : TS) : Option (Nat × TS) := match nextM m S with
  | some j => some (f + 1 + j, ⟨S.pg, fun k => S.used k || decide (k = j)⟩)
  | none => none
def okM (f m : Nat) (S : TS) (at_ : Nat) : Bool := decide (f < at_) && (decide (at_ ≤ f + m) && S.used (at_ - f - 1))
def storeM (f m : Nat) (S : TS) (at_ kind : Nat) (l : List Ent) : Option TS :=
  if (okB kind l && okM f m S at_) = true then some ⟨fun k => if k = at_ then some (kind, l) else S.pg k, S.used⟩ else none
def relM (f m : Nat) (S : TS) (at_ : Nat) : Option TS :=
  if okM f m S at_ = true then some ⟨fun k => if k = at_ then none else S.pg k, fun k => S.used k && !decide (k = at_ - f - 1)⟩ else none
def loadM (S : TS) (at_ : Nat) : Option (Nat × List Ent) := match S.pg at_ with
  | some (kind, l) => if kind = 2 ∧ l = [] then none else some (kind, l)
  | none => none
/-- a space shows them -/
structure Shows (n : Int) (V : Int → ByteArray) (S : TS) : Prop where
  map : MapIs n V S.used
  page : ∀ at_ kind l, S.pg at_ = some (kind, l) → Fine kind l ∧ V at_ = packB kind l ∧ okM (jFirst n).toNat (spMany n) S at_ = true
theorem okM_bd {f m : Nat} {S : TS} {at_ : Nat} (h : okM f m S at_ = true) : f < at_ ∧ at_ ≤ f + m ∧ S.used (at_ - f - 1) = true := by
  simp [okM] at h; exact h
section
variable {n : Int} {V : Int → ByteArray} {S S' : TS} {at_ kind : Nat} {l : List Ent}
theorem first_nat (h1 : 64 ≤ n) (h2 : n ≤ 2048) : ((jFirst n).toNat : Int) = jFirst n ∧ (jFirst n).toNat + spMany n < 2048 ∧ 34 ≤ (jFirst n).toNat := by
  have := first_pos h1 h2
  obtain ⟨m1, m2, m3⟩ := spMany_bd h1 h2
  have hf := first_eq h1 h2
  have hs := jPages_spec h1 h2
  omega
theorem Shows.taken (h : Shows n V S) (h1 : 64 ≤ n) (h2 : n ≤ 2048) (hok : okM (jFirst n).toNat (spMany n) S at_ = true) : spTaken n V at_ = 0 := by
  obtain ⟨a, b, c⟩ := okM_bd hok
  obtain ⟨e, -, -⟩ := first_nat h1 h2
  have := h.map.taken h1 h2 (k := at_ - (jFirst n).toNat - 1) (by omega)
  rw [c, show jFirst n + 1 + ((at_ - (jFirst n).toNat - 1 : Nat) : Int) = (at_ : Int) by omega] at this
  simpa using this
theorem Shows.store (h : Shows n V S) (h1 : 64 ≤ n) (h2 : n ≤ 2048) (hs : storeM (jFirst n).toNat (spMany n) S at_ kind l = some S') :
    Fine kind l ∧ okM (jFirst n).toNat (spMany n) S at_ = true ∧ Shows n (upd V at_ (packB kind l)) S' := by
  unfold storeM at hs
  split at hs
  · rename_i hc
    simp only [Bool.and_eq_true] at hc
    have hf := okB_fine.1 hc.1
    simp at hs
    subst hs
    obtain ⟨a, b, c⟩ := okM_bd hc.2
    obtain ⟨e, -, -⟩ := first_nat h1 h2
    refine ⟨hf, hc.2, ⟨fun j hj => ?_⟩, fun at2 k2 l2 hp => ?_⟩
    · rw [upd_other _ (by omega)]; exact h.map.bits j hj
    · simp only at hp
      by_cases hat : at2 = at_
      · subst hat
        simp at hp
        obtain ⟨rfl, rfl⟩ := hp
        exact ⟨hf, upd_same _ _ _, hc.2⟩
      · rw [if_neg hat] at hp
        obtain ⟨p1, p2, p3⟩ := h.page at2 k2 l2 hp
        exact ⟨p1, by rw [upd_other _ (by omega)]; exact p2, p3⟩
  · cases hs
theorem nextM_some {m j : Nat} (h : nextM m S = some j) : j < m ∧ S.used j = false ∧ ∀ i, i < j → S.used i = true := by
  unfold nextM at h
  have h1 := List.find?_some h
  have h2 := List.mem_of_find?_eq_some h
  rw [List.find?_range_eq_some] at h
  simp at h1 h2
  exact ⟨h2, h1, fun i hi => by have := h.2.2 i hi; simpa using this⟩
theorem Shows.alloc (h : Shows n V S) (h1 : 64 ≤ n) (h2 : n ≤ 2048) (hsz : (V (jFirst n)).size = 256) {j : Nat} (hj : nextM (spMany n) S = some j) :
    spNext n (V (jFirst n)) = some j ∧ Shows n (spGot n V j) ⟨S.pg, fun k => S.used k || decide (k = j)⟩ := by
  obtain ⟨j1, j2, j3⟩ := nextM_some hj
  obtain ⟨m1, m2, m3⟩ := spMany_bd h1 h2
  obtain ⟨e, -, -⟩ := first_nat h1 h2
  refine ⟨h.map.next j1 j3 j2, h.map.got j1 hsz (by omega) j2, fun at2 k2 l2 hp => ?_⟩
  obtain ⟨p1, p2, p3⟩ := h.page at2 k2 l2 hp
  obtain ⟨a, b, c⟩ := okM_bd p3
  have hne : at2 ≠ (jFirst n).toNat + 1 + j := fun hx => by
    rw [hx, show (jFirst n).toNat + 1 + j - (jFirst n).toNat - 1 = j by omega, j2] at c; cases c
  refine ⟨p1, ?_, ?_⟩
  · unfold spGot
    rw [upd_other _ (by omega), upd_other _ (by omega)]; exact p2
  · simp [okM, c]; omega
theorem Shows.release (h : Shows n V S) (h1 : 64 ≤ n) (h2 : n ≤ 2048) (hsz : (V (jFirst n)).size = 256) (hr : relM (jFirst n).toNat (spMany n) S at_ = some S') :
    okM (jFirst n).toNat (spMany n) S at_ = true ∧ Shows n (upd V (jFirst n) (flipB (V (jFirst n)) ((at_ : Int) - jFirst n).toNat)) S' := by
  unfold relM at hr
  split at hr
  · rename_i hc
    simp at hr
    subst hr
    obtain ⟨a, b, c⟩ := okM_bd hc
    obtain ⟨m1, m2, m3⟩ := spMany_bd h1 h2
    obtain ⟨e, -, -⟩ := first_nat h1 h2
    refine ⟨hc, ?_, fun at2 k2 l2 hp => ?_⟩
    · have := h.map.back (k := at_ - (jFirst n).toNat - 1) (by omega) hsz (by omega) c
      rw [show at_ - (jFirst n).toNat - 1 + 1 = ((at_ : Int) - jFirst n).toNat by omega] at this
      exact this
    · simp only at hp
      by_cases hat : at2 = at_
      · rw [if_pos hat] at hp; cases hp
      · rw [if_neg hat] at hp
        obtain ⟨p1, p2, p3⟩ := h.page at2 k2 l2 hp
        obtain ⟨a2, b2, c2⟩ := okM_bd p3
        refine ⟨p1, by rw [upd_other _ (by omega)]; exact p2, ?_⟩
        simp [okM, c2]; omega
  · cases hr
end
/-! ### in memory -/
/-- behind a call: the space shows V' -/
structure TSt (w0 w w' : World) (s d : Nat) (F F' : Nat → Prop) (n : Int) (V' D' : Int → ByteArray) (N : Int) : Prop where
  sin : SIn w0 w' s d F' n V' D' N
  upd : Upd F w w'
  new : ∀ b, F' b → F b ∨ w.heap.size ≤ b
  lt : ∀ b, F' b → b < w'.heap.size
section
variable {w0 w w1 w2 : World} {s d : Nat} {F F1 F2 : Nat → Prop} {n N N1 N2 : Int} {V D V1 D1 V2 D2 : Int → ByteArray}
theorem TSt.refl (h : SIn w0 w s d F n V D N) (hlt : ∀ b, F b → b < w.heap.size) : TSt w0 w w s d F F n V D N := ⟨h, Upd.refl _ _, fun _ hb => .inl hb, hlt⟩
theorem TSt.trans (h : TSt w0 w w1 s d F F1 n V1 D1 N1) (k : TSt w0 w1 w2 s d F1 F2 n V2 D2 N2) : TSt w0 w w2 s d F F2 n V2 D2 N2 := by
  have hs := h.upd.size
  refine ⟨k.sin, h.upd.then k.upd fun x hx hf => ?_, fun b hb => ?_, k.lt⟩
  · rcases h.new x hf with hf | hf
    · exact hf
    · omega
  · rcases k.new b hb with hb | hb
    · exact h.new b hb
    · exact .inr (by omega)
theorem TSt.of (h : SStp w0 w w1 s d F n V1 D1 N) (hF : ∀ b, F b → b < w.heap.size) : TSt w0 w w1 s d F (ext F w w1) n V1 D1 N := by
  have hs := h.upd.size
  refine ⟨h.sin, h.upd, fun b hb => ?_, fun b hb => ?_⟩
  · rcases hb with hb | hb
    · exact .inl hb
    · exact .inr hb.1
  · rcases hb with hb | hb
    · have := hF b hb; omega
    · exact hb.2
theorem TSt.made (h : TSt w0 w w1 s d F F1 n V1 D1 N) (hB : Below w1.heap.size w1 w2) : TSt w0 w w2 s d F F1 n V1 D1 N := by
  have hs1 := h.upd.size
  have hs2 := hB.size
  exact ⟨h.sin.made hB, h.upd.trans (Upd.below hB fun x hx hle => by omega), h.new, fun b hb => by have := h.lt b hb; omega⟩
theorem TSt.mono {M : Int} (h : TSt w0 w w1 s d F F1 n V1 D1 N) (hle : N ≤ M) : TSt w0 w w1 s d F F1 n V1 D1 M := ⟨h.sin.mono hle, h.upd, h.new, h.lt⟩
/-- a block of one's own is turned -/
theorem TSt.cell (h : TSt w0 w w1 s d F F1 n V1 D1 N) {g : Nat} (h0 : w0.heap.size ≤ w.heap.size) (hg : w.heap.size ≤ g) (hf : ¬ F1 g) (hgs : g ≠ s) (i : Nat) (v : Value) : TSt w0 w (w1.setCell ⟨g, i, none⟩ v) s d F F1 n V1 D1 N := by
  refine ⟨h.sin.setCell (by omega) hf hgs i v, h.upd.setCell ⟨g, i, none⟩ (fun hx => absurd hx (by simp only; omega)) v, h.new, fun b hb => by have := h.lt b hb; simpa using this⟩
/-- a row that is none of the space's -/
theorem TSt.row (k : TSt w0 w1 w2 s d F1 F2 n V2 D2 N2) {B : Nat} {v : Value} {l : List Ent} (h : EOwn w1 B v l) (ho : ∀ b, v.ownBlock = some b → ¬ F1 b) : EOwn w2 B v l ∧ ∀ b, v.ownBlock = some b → ¬ F2 b :=
  ⟨h.keep fun b hb => k.upd.block b (h.lt b hb).2 (ho b hb), fun b hb hf => by
    rcases k.new b hf with hf | hf
    · exact ho b hb hf
    · have := (h.lt b hb).2; omega⟩
/-- a tree in memory -/
structure TAt (w : World) (F : Nat → Prop) (t s root : Nat) : Prop where
  obj : w.heap[t]? = some (.cells #[.pointer (some ⟨s, 0, none⟩), .int .i64 root] 70 (0, 0))
  out : ¬ F t
theorem TAt.step {t root : Nat} (h : TAt w1 F1 t s root) (k : TSt w0 w1 w2 s d F1 F2 n V2 D2 N2) : TAt w2 F2 t s root :=
  ⟨(k.upd.block t (lt_of h.obj) h.out).trans h.obj, fun hf => by
    rcases k.new t hf with hf | hf
    · exact h.out hf
    · have := lt_of h.obj; omega⟩
theorem TAt.made {t root : Nat} (h : TAt w1 F1 t s root) (hB : Below w1.heap.size w1 w2) : TAt w2 F1 t s root := ⟨(hB.block t (lt_of h.obj)).trans h.obj, h.out⟩
end
end Go.Proofs.YtmgcaohpbaiiaaaGreatDoor
