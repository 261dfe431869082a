/- What a tree's page numbers and entries come to, as plain data; how a space shows them; a step in memory · Tree.load, store, alloc; a space's Release in a tree · What put, take and the walk over a tree come to, as plain functions · A run over a tree in a space: what has been reached, and the rows that stay. -/
import Derived.Test.YtmgcaohpbaiiaaaGreatDoorU3
namespace Go.Proofs.YtmgcaohpbaiiaaaGreatDoor
/-! TStep -/
section
set_option linter.unusedSimpArgs false
set_option linter.unusedVariables false
open Go.RowKit Go.Maps Go.Shelf

theorem setCell_other {w : World} {b g i : Nat} {u : Value} (h : g ≠ b) : (w.setCell ⟨b, i, none⟩ u).heap[g]? = w.heap[g]? := Below.heap_setCell w ⟨b, i, none⟩ u g h
structure MapIs (n : Int) (V : Int → ByteArray) (f : Nat → Bool) : Prop where
  bits : ∀ j, j < spMany n → bitB (V (jFirst n)) (j + 1) = f j
section
variable {n : Int} {V : Int → ByteArray} {f : Nat → Bool} {k : Nat}
theorem MapIs.next (h : MapIs n V f) (hk : k < spMany n) (ha : ∀ j, j < k → f j = true) (hf : f k = false) : spNext n (V (jFirst n)) = some k :=
  next_some hk (fun j hj => (h.bits j (by omega)).trans (ha j hj)) ((h.bits k hk).trans hf)
theorem MapIs.full (h : MapIs n V f) (ha : ∀ j, j < spMany n → f j = true) : spNext n (V (jFirst n)) = none :=
  next_none fun j hj => (h.bits j hj).trans (ha j hj)
theorem MapIs.taken (h : MapIs n V f) (h1 : 64 ≤ n) (h2 : n ≤ 2048) (hk : k < spMany n) : spTaken n V (jFirst n + 1 + (k : Int)) = if f k then 0 else 8 := by
  obtain ⟨m1, m2, m3⟩ := spMany_bd h1 h2
  unfold spTaken
  rw [if_neg (by omega), show (jFirst n + 1 + (k : Int) - jFirst n).toNat = k + 1 by omega, h.bits k hk]
theorem MapIs.got (h : MapIs n V f) (hk : k < spMany n) (hsz : (V (jFirst n)).size = 256) (hm : spMany n ≤ 1022) (hf : f k = false) : MapIs n (spGot n V k) (fun j => f j || decide (j = k)) := by
  refine ⟨fun j hj => ?_⟩
  have : spGot n V k (jFirst n) = flipB (V (jFirst n)) (k + 1) := by unfold spGot; rw [upd_other _ (by omega), upd_same]
  rw [this, bitB_flip _ (by omega)]
  by_cases e : j = k
  · subst e
    rw [if_pos rfl, h.bits j hj, hf]; simp
  · rw [if_neg (by omega), h.bits j hj]; simp [e]
theorem MapIs.back (h : MapIs n V f) (hk : k < spMany n) (hsz : (V (jFirst n)).size = 256) (hm : spMany n ≤ 1022) (hf : f k = true) :
    MapIs n (upd V (jFirst n) (flipB (V (jFirst n)) (k + 1))) (fun j => f j && !decide (j = k)) := by
  refine ⟨fun j hj => ?_⟩
  rw [upd_same, bitB_flip _ (by omega)]
  by_cases e : j = k
  · subst e
    rw [if_pos rfl, h.bits j hj, hf]; simp
  · rw [if_neg (by omega), h.bits j hj]; simp [e]
theorem MapIs.congr {g : Nat → Bool} (h : MapIs n V f) (hg : ∀ j, j < spMany n → f j = g j) : MapIs n V g := ⟨fun j hj => (h.bits j hj).trans (hg j hj)⟩
end
theorem SIn.lt {w0 w : World} {s d : Nat} {F : Nat → Prop} {n N : Int} {V D : Int → ByteArray} (h : SIn w0 w s d F n V D N) : SIn w0 w s d (fun b => F b ∧ b < w.heap.size) n V D N := by
  obtain ⟨p, S, hP, hS, hc⟩ := h.ex
  exact ⟨⟨p, S, ⟨hP.pat.lt, fun b hb => hP.new b hb.1, hP.below⟩, hS, hc⟩, h.new, fun hx => h.out hx.1, h.glob⟩
theorem SIn.setCell {w0 w : World} {s d g : Nat} {F : Nat → Prop} {n N : Int} {V D : Int → ByteArray} (h : SIn w0 w s d F n V D N) (hn : w0.heap.size ≤ g) (ho : ¬ F g) (hs : g ≠ s) (i : Nat) (v : Value) : SIn w0 (w.setCell ⟨g, i, none⟩ v) s d F n V D N := by
  obtain ⟨p, S, hP, hS, hc⟩ := h.ex
  refine ⟨⟨p, S, ⟨hP.pat.upd (G := fun b => b = g) (Upd.setCell (F := fun b => b = g) (Upd.refl _ w) ⟨g, i, none⟩ (fun _ => rfl) v) (fun b hb e => ho (e ▸ hb)), hP.new, hP.below.setCell hn v⟩, hS, (setCell_other (fun e => hs e.symm)).trans hc⟩, h.new, h.out, h.glob⟩

/-! ### a tree's pages, as plain data -/
/-- pages that hold entries (kind, list), and which of the user's pages are taken -/
structure TS where
  pg : Nat → Option (Nat × List Ent)
  used : Nat → Bool
/-- f: the number ahead of the user's first page; m: how many there are -/
def nextM (m : Nat) (S : TS) : Option Nat := (List.range m).find? fun j => !S.used j
def allocM (f m : Nat) (S : TS) : Option (Nat × TS) := match nextM m S with
  | some j => some (f + 1 + j, ⟨S.pg, fun k => S.used k || decide (k = j)⟩)
  | none => none
def okM (f m : Nat) (S : TS) (at_ : Nat) : Bool := decide (f < at_) && (decide (at_ ≤ f + m) && S.used (at_ - f - 1))
def storeM (f m : Nat) (S : TS) (at_ kind : Nat) (l : List Ent) : Option TS :=
  if (okB kind l && okM f m S at_) = true then some ⟨fun k => if k = at_ then some (kind, l) else S.pg k, S.used⟩ else none
def relM (f m : Nat) (S : TS) (at_ : Nat) : Option TS :=
  if okM f m S at_ = true then some ⟨fun k => if k = at_ then none else S.pg k, fun k => S.used k && !decide (k = at_ - f - 1)⟩ else none
def loadM (S : TS) (at_ : Nat) : Option (Nat × List Ent) := match S.pg at_ with
  | some (kind, l) => if kind = 2 ∧ l = [] then none else some (kind, l)
  | none => none
/-- a space shows them -/
structure Shows (n : Int) (V : Int → ByteArray) (S : TS) : Prop where
  map : MapIs n V S.used
  page : ∀ at_ kind l, S.pg at_ = some (kind, l) → Fine kind l ∧ V at_ = packB kind l ∧ okM (jFirst n).toNat (spMany n) S at_ = true
theorem okM_bd {f m : Nat} {S : TS} {at_ : Nat} (h : okM f m S at_ = true) : f < at_ ∧ at_ ≤ f + m ∧ S.used (at_ - f - 1) = true := by
  simp [okM] at h; exact h
section
variable {n : Int} {V : Int → ByteArray} {S S' : TS} {at_ kind : Nat} {l : List Ent}
theorem first_nat (h1 : 64 ≤ n) (h2 : n ≤ 2048) : ((jFirst n).toNat : Int) = jFirst n ∧ (jFirst n).toNat + spMany n < 2048 ∧ 34 ≤ (jFirst n).toNat := by
  have := first_pos h1 h2
  obtain ⟨m1, m2, m3⟩ := spMany_bd h1 h2
  have hf := first_eq h1 h2
  have hs := jPages_spec h1 h2
  omega
theorem Shows.taken (h : Shows n V S) (h1 : 64 ≤ n) (h2 : n ≤ 2048) (hok : okM (jFirst n).toNat (spMany n) S at_ = true) : spTaken n V at_ = 0 := by
  obtain ⟨a, b, c⟩ := okM_bd hok
  obtain ⟨e, -, -⟩ := first_nat h1 h2
  have := h.map.taken h1 h2 (k := at_ - (jFirst n).toNat - 1) (by omega)
  rw [c, show jFirst n + 1 + ((at_ - (jFirst n).toNat - 1 : Nat) : Int) = (at_ : Int) by omega] at this
  simpa using this
theorem Shows.store (h : Shows n V S) (h1 : 64 ≤ n) (h2 : n ≤ 2048) (hs : storeM (jFirst n).toNat (spMany n) S at_ kind l = some S') :
    Fine kind l ∧ okM (jFirst n).toNat (spMany n) S at_ = true ∧ Shows n (upd V at_ (packB kind l)) S' := by
  unfold storeM at hs
  split at hs
  · rename_i hc
    simp only [Bool.and_eq_true] at hc
    have hf := okB_fine.1 hc.1
    simp at hs
    subst hs
    obtain ⟨a, b, c⟩ := okM_bd hc.2
    obtain ⟨e, -, -⟩ := first_nat h1 h2
    refine ⟨hf, hc.2, ⟨fun j hj => ?_⟩, fun at2 k2 l2 hp => ?_⟩
    · rw [upd_other _ (by omega)]; exact h.map.bits j hj
    · simp only at hp
      by_cases hat : at2 = at_
      · subst hat
        simp at hp
        obtain ⟨rfl, rfl⟩ := hp
        exact ⟨hf, upd_same _ _ _, hc.2⟩
      · rw [if_neg hat] at hp
        obtain ⟨p1, p2, p3⟩ := h.page at2 k2 l2 hp
        exact ⟨p1, by rw [upd_other _ (by omega)]; exact p2, p3⟩
  · cases hs
theorem nextM_some {m j : Nat} (h : nextM m S = some j) : j < m ∧ S.used j = false ∧ ∀ i, i < j → S.used i = true := by
  unfold nextM at h
  have h1 := List.find?_some h
  have h2 := List.mem_of_find?_eq_some h
  rw [List.find?_range_eq_some] at h
  simp at h1 h2
  exact ⟨h2, h1, fun i hi => by have := h.2.2 i hi; simpa using this⟩
theorem Shows.alloc (h : Shows n V S) (h1 : 64 ≤ n) (h2 : n ≤ 2048) (hsz : (V (jFirst n)).size = 256) {j : Nat} (hj : nextM (spMany n) S = some j) :
    spNext n (V (jFirst n)) = some j ∧ Shows n (spGot n V j) ⟨S.pg, fun k => S.used k || decide (k = j)⟩ := by
  obtain ⟨j1, j2, j3⟩ := nextM_some hj
  obtain ⟨m1, m2, m3⟩ := spMany_bd h1 h2
  obtain ⟨e, -, -⟩ := first_nat h1 h2
  refine ⟨h.map.next j1 j3 j2, h.map.got j1 hsz (by omega) j2, fun at2 k2 l2 hp => ?_⟩
  obtain ⟨p1, p2, p3⟩ := h.page at2 k2 l2 hp
  obtain ⟨a, b, c⟩ := okM_bd p3
  have hne : at2 ≠ (jFirst n).toNat + 1 + j := fun hx => by
    rw [hx, show (jFirst n).toNat + 1 + j - (jFirst n).toNat - 1 = j by omega, j2] at c; cases c
  refine ⟨p1, ?_, ?_⟩
  · unfold spGot
    rw [upd_other _ (by omega), upd_other _ (by omega)]; exact p2
  · simp [okM, c]; omega
theorem Shows.release (h : Shows n V S) (h1 : 64 ≤ n) (h2 : n ≤ 2048) (hsz : (V (jFirst n)).size = 256) (hr : relM (jFirst n).toNat (spMany n) S at_ = some S') :
    okM (jFirst n).toNat (spMany n) S at_ = true ∧ Shows n (upd V (jFirst n) (flipB (V (jFirst n)) ((at_ : Int) - jFirst n).toNat)) S' := by
  unfold relM at hr
  split at hr
  · rename_i hc
    simp at hr
    subst hr
    obtain ⟨a, b, c⟩ := okM_bd hc
    obtain ⟨m1, m2, m3⟩ := spMany_bd h1 h2
    obtain ⟨e, -, -⟩ := first_nat h1 h2
    refine ⟨hc, ?_, fun at2 k2 l2 hp => ?_⟩
    · have := h.map.back (k := at_ - (jFirst n).toNat - 1) (by omega) hsz (by omega) c
      rw [show at_ - (jFirst n).toNat - 1 + 1 = ((at_ : Int) - jFirst n).toNat by omega] at this
      exact this
    · simp only at hp
      by_cases hat : at2 = at_
      · rw [if_pos hat] at hp; cases hp
      · rw [if_neg hat] at hp
        obtain ⟨p1, p2, p3⟩ := h.page at2 k2 l2 hp
        obtain ⟨a2, b2, c2⟩ := okM_bd p3
        refine ⟨p1, by rw [upd_other _ (by omega)]; exact p2, ?_⟩
        simp [okM, c2]; omega
  · cases hr
end
/-! ### in memory -/
/-- behind a call: the space shows V' -/
structure TSt (w0 w w' : World) (s d : Nat) (F F' : Nat → Prop) (n : Int) (V' D' : Int → ByteArray) (N : Int) : Prop where
  sin : SIn w0 w' s d F' n V' D' N
  upd : Upd F w w'
  new : ∀ b, F' b → F b ∨ w.heap.size ≤ b
  lt : ∀ b, F' b → b < w'.heap.size
section
variable {w0 w w1 w2 : World} {s d : Nat} {F F1 F2 : Nat → Prop} {n N N1 N2 : Int} {V D V1 D1 V2 D2 : Int → ByteArray}
theorem TSt.refl (h : SIn w0 w s d F n V D N) (hlt : ∀ b, F b → b < w.heap.size) : TSt w0 w w s d F F n V D N := ⟨h, Upd.refl _ _, fun _ hb => .inl hb, hlt⟩
theorem TSt.trans (h : TSt w0 w w1 s d F F1 n V1 D1 N1) (k : TSt w0 w1 w2 s d F1 F2 n V2 D2 N2) : TSt w0 w w2 s d F F2 n V2 D2 N2 := by
  have hs := h.upd.size
  refine ⟨k.sin, h.upd.then k.upd fun x hx hf => ?_, fun b hb => ?_, k.lt⟩
  · rcases h.new x hf with hf | hf
    · exact hf
    · omega
  · rcases k.new b hb with hb | hb
    · exact h.new b hb
    · exact .inr (by omega)
theorem TSt.of (h : SStp w0 w w1 s d F n V1 D1 N) (hF : ∀ b, F b → b < w.heap.size) : TSt w0 w w1 s d F (ext F w w1) n V1 D1 N := by
  have hs := h.upd.size
  refine ⟨h.sin, h.upd, fun b hb => ?_, fun b hb => ?_⟩
  · rcases hb with hb | hb
    · exact .inl hb
    · exact .inr hb.1
  · rcases hb with hb | hb
    · have := hF b hb; omega
    · exact hb.2
theorem TSt.made (h : TSt w0 w w1 s d F F1 n V1 D1 N) (hB : Below w1.heap.size w1 w2) : TSt w0 w w2 s d F F1 n V1 D1 N := by
  have hs1 := h.upd.size
  have hs2 := hB.size
  exact ⟨h.sin.made hB, h.upd.trans (Upd.below hB fun x hx hle => by omega), h.new, fun b hb => by have := h.lt b hb; omega⟩
theorem TSt.mono {M : Int} (h : TSt w0 w w1 s d F F1 n V1 D1 N) (hle : N ≤ M) : TSt w0 w w1 s d F F1 n V1 D1 M := ⟨h.sin.mono hle, h.upd, h.new, h.lt⟩
/-- a block of one's own is turned -/
theorem TSt.cell (h : TSt w0 w w1 s d F F1 n V1 D1 N) {g : Nat} (h0 : w0.heap.size ≤ w.heap.size) (hg : w.heap.size ≤ g) (hf : ¬ F1 g) (hgs : g ≠ s) (i : Nat) (v : Value) : TSt w0 w (w1.setCell ⟨g, i, none⟩ v) s d F F1 n V1 D1 N := by
  refine ⟨h.sin.setCell (by omega) hf hgs i v, h.upd.setCell ⟨g, i, none⟩ (fun hx => absurd hx (by simp only; omega)) v, h.new, fun b hb => by have := h.lt b hb; simpa using this⟩
/-- a row that is none of the space's -/
theorem TSt.row (k : TSt w0 w1 w2 s d F1 F2 n V2 D2 N2) {B : Nat} {v : Value} {l : List Ent} (h : EOwn w1 B v l) (ho : ∀ b, v.ownBlock = some b → ¬ F1 b) : EOwn w2 B v l ∧ ∀ b, v.ownBlock = some b → ¬ F2 b :=
  ⟨h.keep fun b hb => k.upd.block b (h.lt b hb).2 (ho b hb), fun b hb hf => by
    rcases k.new b hf with hf | hf
    · exact ho b hb hf
    · have := (h.lt b hb).2; omega⟩
/-- a tree in memory -/
structure TAt (w : World) (F : Nat → Prop) (t s root : Nat) : Prop where
  obj : w.heap[t]? = some (.cells #[.pointer (some ⟨s, 0, none⟩), .int .i64 root] 70 (0, 0))
  out : ¬ F t
theorem TAt.step {t root : Nat} (h : TAt w1 F1 t s root) (k : TSt w0 w1 w2 s d F1 F2 n V2 D2 N2) : TAt w2 F2 t s root :=
  ⟨(k.upd.block t (lt_of h.obj) h.out).trans h.obj, fun hf => by
    rcases k.new t hf with hf | hf
    · exact h.out hf
    · have := lt_of h.obj; omega⟩
theorem TAt.made {t root : Nat} (h : TAt w1 F1 t s root) (hB : Below w1.heap.size w1 w2) : TAt w2 F1 t s root := ⟨(hB.block t (lt_of h.obj)).trans h.obj, h.out⟩
end
end
/-! TNode -/
section
set_option linter.unusedSimpArgs false
set_option linter.unusedVariables false
open Go.RowKit Go.Maps Go.Shelf

/-- a tree in a space, at a state of its pages -/
structure TIn (w0 w : World) (s d : Nat) (F : Nat → Prop) (n : Int) (V D : Int → ByteArray) (N : Int) (t root : Nat) (S : TS) : Prop where
  sin : SIn w0 w s d F n V D N
  lt : ∀ b, F b → b < w.heap.size
  at_ : TAt w F t s root
  shows : Shows n V S
section
variable {w0 w w1 w2 : World} {s d t root : Nat} {F F1 F2 : Nat → Prop} {n N N1 N2 : Int} {V D V1 D1 V2 D2 : Int → ByteArray} {S S1 S2 : TS}
theorem TIn.step (h : TIn w0 w s d F n V D N t root S) (k : TSt w0 w w1 s d F F1 n V1 D1 N1) (hS : Shows n V1 S1) : TIn w0 w1 s d F1 n V1 D1 N1 t root S1 := ⟨k.sin, k.lt, h.at_.step k, hS⟩
theorem TIn.made (h : TIn w0 w s d F n V D N t root S) (hB : Below w.heap.size w w1) : TIn w0 w1 s d F n V D N t root S :=
  ⟨h.sin.made hB, fun b hb => by have := h.lt b hb; have := hB.size; omega, h.at_.made hB, h.shows⟩
theorem TIn.refl (h : TIn w0 w s d F n V D N t root S) : TSt w0 w w s d F F n V D N := TSt.refl h.sin h.lt
theorem TIn.bd (h : TIn w0 w s d F n V D N t root S) : 64 ≤ n ∧ n ≤ 2048 := h.sin.bd
theorem TIn.cell (h : TIn w0 w s d F n V D N t root S) : w.cell? ⟨t, 0, none⟩ = some (.pointer (some ⟨s, 0, none⟩)) ∧ w.cell? ⟨t, 1, none⟩ = some (.int .i64 root) := by
  constructor
  · rw [cell_of h.at_.obj]; rfl
  · rw [cell_of h.at_.obj]; rfl
theorem loadM_some {at_ kind : Nat} {l : List Ent} (h : loadM S at_ = some (kind, l)) : S.pg at_ = some (kind, l) ∧ ¬ (kind = 2 ∧ l = []) := by
  unfold loadM at h
  cases hp : S.pg at_ with
  | none => rw [hp] at h; cases h
  | some q =>
    obtain ⟨k, l'⟩ := q
    rw [hp] at h
    simp only at h
    split at h
    · cases h
    · rename_i hc
      simp at h
      obtain ⟨rfl, rfl⟩ := h
      exact ⟨rfl, hc⟩
set_option maxHeartbeats 2000000 in
set_option maxRecDepth 100000 in
theorem tload_any (h : TIn w0 w s d F n V D N t root S) (at_ kind : Nat) (l : List Ent) (hp : loadM S at_ = some (kind, l)) (hN : N < 2305843009213693000) :
    Calls Tryz.prog 39 #[.pointer (some ⟨t, 0, none⟩), .int .i64 at_] w fun e w' => ∃ F' v, e = .returned (.tuple #[.int .i64 kind, v]) ∧ TSt w0 w w' s d F F' n V D (N + 4) ∧ EOwn w' w.heap.size v l ∧ (∀ b, v.ownBlock = some b → ¬ F' b) := by
  obtain ⟨hp1, hp2⟩ := loadM_some hp
  obtain ⟨hf, hv, hok⟩ := h.shows.page _ _ _ hp1
  have htk := h.shows.taken h.bd.1 h.bd.2 hok
  have hG := get_sp h.sin at_ hN
  rw [htk] at hG
  simp only [if_true] at hG
  rw [hv] at hG
  have HU : Hid (∀ W, Calls Tryz.prog 74 #[.string (packB kind l)] W fun e w' => ∃ v, e = .returned (.tuple #[.int .i64 kind, v, .int .i64 0]) ∧ EOwn w' W.heap.size v l ∧ Below W.heap.size W w') := fun W => unpack_any W kind l hf
  have HM : Hid (∀ W, Calls Tryz.prog 44 #[.int .i64 0] W fun e w' => e = .returned (.tuple #[]) ∧ W = w') := fun W => must_ok W
  have HT : Hid (∀ w1, SStp w0 w w1 s d F n V D (N + 4) → ∀ w2 v, Below w1.heap.size w1 w2 → EOwn w2 w1.heap.size v l → ∃ F', TSt w0 w w2 s d F F' n V D (N + 4) ∧ EOwn w2 w.heap.size v l ∧ (∀ b, v.ownBlock = some b → ¬ F' b)) := fun w1 hs w2 v hB ho => by
    have ht := TSt.of hs h.lt
    refine ⟨_, ht.made hB, ho.base hs.upd.size, fun b hb hf => ?_⟩
    have h1 := (ho.lt b hb).1
    have h2 := ht.lt b hf
    omega
  obtain ⟨c0, -⟩ := h.cell
  have hk := hf.kind
  have hl2 : kind = 2 → ¬ (l.length : Int) = 0 := fun e hl => hp2 ⟨e, List.length_eq_zero_iff.1 (by omega)⟩
  clear h hp hp1 hp2 hf hv hok htk
  generalize packB kind l = pk at *
  rcases hk with rfl | rfl
  · clear hl2
    go_enter Tryz.func39, Tryz.ntmps39
    go_wp2_with fail
    refine hG.mono ?_
    rintro e w1 ⟨rfl, hs⟩
    have HT2 := Lib.hid (HT.out w1 hs)
    have hm := HM.out w1
    have hu := HU.out w1
    clear hG HT HU hs
    go_wp2_with fail
    refine hm.mono ?_
    rintro e w' ⟨rfl, rfl⟩
    go_wp2_with fail
    refine hu.mono ?_
    rintro e w2 ⟨v, rfl, ho, hB⟩
    obtain ⟨F', hf1, hf2, hf3⟩ := HT2.out w2 v hB ho
    have hm2 := HM.out w2
    clear HM hm hu HT2
    go_wp2_with fail
    refine hm2.mono ?_
    rintro e w' ⟨rfl, rfl⟩
    go_wp2
    go_ret2
    exact ⟨F', v, rfl, hf1, hf2, hf3⟩
  · have hl3 := hl2 rfl
    clear hl2
    have HP : Hid (∀ W v, EOwn W w.heap.size v l → ∃ ao c, v = .slice ao l.length c) := fun W v h => by
      obtain ⟨ao, c, e, -⟩ := h.parts
      exact ⟨ao, c, e⟩
    go_enter Tryz.func39, Tryz.ntmps39
    go_wp2_with fail
    refine hG.mono ?_
    rintro e w1 ⟨rfl, hs⟩
    have HT2 := Lib.hid (HT.out w1 hs)
    have hm := HM.out w1
    have hu := HU.out w1
    clear hG HT HU hs
    go_wp2_with fail
    refine hm.mono ?_
    rintro e w' ⟨rfl, rfl⟩
    go_wp2_with fail
    refine hu.mono ?_
    rintro e w2 ⟨v, rfl, ho, hB⟩
    obtain ⟨F', hf1, hf2, hf3⟩ := HT2.out w2 v hB ho
    obtain ⟨ao, c, rfl⟩ := HP.out w2 v hf2
    have hm2 := HM.out w2
    have HF2 := Lib.hid hf2
    clear HM hm hu HT2 hf2 ho
    generalize l.length = m at *
    go_wp2_with fail
    refine hm2.mono ?_
    rintro e w' ⟨rfl, rfl⟩
    go_wp2
    go_ret2
    exact ⟨F', _, rfl, hf1, HF2.out, hf3⟩
set_option maxHeartbeats 2000000 in
set_option maxRecDepth 100000 in
theorem tstore_any (h : TIn w0 w s d F n V D N t root S) (at_ kind : Nat) (l : List Ent) (ao : Option Addr) (c : Nat) (hr : ERow w ao l) (hs : storeM (jFirst n).toNat (spMany n) S at_ kind l = some S1) (hN : N < 2305843009213693000) :
    Calls Tryz.prog 29 #[.pointer (some ⟨t, 0, none⟩), .int .i64 at_, .int .i64 kind, .slice ao l.length c] w fun e w' => ∃ F' V', e = .returned (.tuple #[]) ∧ TSt w0 w w' s d F F' n V' D (N + 4) ∧ Shows n V' S1 := by
  obtain ⟨hf, hok, hsh⟩ := h.shows.store h.bd.1 h.bd.2 hs
  have htk := h.shows.taken h.bd.1 h.bd.2 hok
  have hP := pack_any w ao c kind l hr hf
  have hsz := packB_size (kind := kind) hf.size
  have HG : Hid (∀ W, Below w.heap.size w W → W.cell? ⟨t, 0, none⟩ = some (.pointer (some ⟨s, 0, none⟩)) ∧ Calls Tryz.prog 71 #[.pointer (some ⟨s, 0, none⟩), .int .i64 at_, .string (packB kind l)] W fun e w' => e = .returned (.int .i64 0) ∧ ∃ F' V', TSt w0 w w' s d F F' n V' D (N + 4) ∧ Shows n V' S1) := fun W hB => by
    have h1 := h.made hB
    refine ⟨h1.cell.1, ?_⟩
    have hp0 : spPut n V at_ (packB kind l) = 0 := by unfold spPut; rw [if_neg (by simp [htk]), if_neg (by simp [hsz])]
    have := put_sp h1.sin at_ (packB kind l) (by omega) hN
    rw [hp0] at this
    simp only [if_true] at this
    refine this.mono ?_
    rintro e w' ⟨he, hst⟩
    exact ⟨he, _, _, (h.refl.made hB).trans (TSt.of hst h1.lt), hsh⟩
  have HM : Hid (∀ W, Calls Tryz.prog 44 #[.int .i64 0] W fun e w' => e = .returned (.tuple #[]) ∧ W = w') := fun W => must_ok W
  clear h hr hs hf hok hsh htk hsz
  generalize packB kind l = pk at *
  generalize l.length = m at *
  go_enter Tryz.func29, Tryz.ntmps29
  go_wp2_with fail
  refine hP.mono ?_
  rintro e w1 ⟨rfl, hB⟩
  obtain ⟨c0, hg⟩ := HG.out w1 hB
  have hm := HM.out w1
  clear HG hP
  go_wp2_with fail
  refine hm.mono ?_
  rintro e w' ⟨rfl, rfl⟩
  go_wp2_with fail
  refine hg.mono ?_
  rintro e w2 ⟨rfl, F', V', hf1, hf2⟩
  have hm2 := HM.out w2
  clear HM hm hg
  go_wp2_with fail
  refine hm2.mono ?_
  rintro e w' ⟨rfl, rfl⟩
  go_wp2
  go_end0
  exact ⟨F', V', rfl, hf1, hf2⟩
set_option maxHeartbeats 2000000 in
set_option maxRecDepth 100000 in
theorem talloc_any (h : TIn w0 w s d F n V D N t root S) (at_ : Nat) (ha : allocM (jFirst n).toNat (spMany n) S = some (at_, S1)) (hN : N < 2305843009213693000) :
    Calls Tryz.prog 28 #[.pointer (some ⟨t, 0, none⟩)] w fun e w' => ∃ F' V', e = .returned (.int .i64 at_) ∧ TSt w0 w w' s d F F' n V' D (N + 4) ∧ Shows n V' S1 := by
  obtain ⟨e1, -, -⟩ := first_nat h.bd.1 h.bd.2
  unfold allocM at ha
  cases hj : nextM (spMany n) S with
  | none => rw [hj] at ha; cases ha
  | some j =>
    rw [hj] at ha
    simp at ha
    obtain ⟨rfl, rfl⟩ := ha
    obtain ⟨h1, h2⟩ := h.shows.alloc h.bd.1 h.bd.2 (h.sin.size h.sin.first) hj
    have hA := alloc_some h.sin h1 hN
    rw [show jFirst n + 1 + (j : Int) = (((jFirst n).toNat + 1 + j : Nat) : Int) by push_cast; omega] at hA
    have HT : Hid (∀ w', SStp w0 w w' s d F n (spGot n V j) D (N + 4) → TSt w0 w w' s d F (ext F w w') n (spGot n V j) D (N + 4)) := fun w' hs => TSt.of hs h.lt
    have HM : Hid (∀ W, Calls Tryz.prog 44 #[.int .i64 0] W fun e w' => e = .returned (.tuple #[]) ∧ W = w') := fun W => must_ok W
    obtain ⟨c0, -⟩ := h.cell
    have H2 := Lib.hid h2
    clear h h1 h2 hj e1
    generalize (jFirst n).toNat + 1 + j = a at *
    go_enter Tryz.func28, Tryz.ntmps28
    go_wp2_with fail
    refine hA.mono ?_
    rintro e w1 ⟨rfl, hs⟩
    have hm := HM.out w1
    clear hA
    go_wp2_with fail
    refine hm.mono ?_
    rintro e w' ⟨rfl, rfl⟩
    go_wp2
    go_ret
    exact ⟨_, _, rfl, HT.out _ hs, H2.out⟩
/-- a page is given back -/
theorem trel_any (h : TIn w0 w s d F n V D N t root S) (at_ : Nat) (hr : relM (jFirst n).toNat (spMany n) S at_ = some S1) (hN : N < 2305843009213693000) :
    Calls Tryz.prog 45 #[.pointer (some ⟨s, 0, none⟩), .int .i64 at_] w fun e w' => e = .returned (.int .i64 0) ∧ ∃ F' V', TSt w0 w w' s d F F' n V' D (N + 4) ∧ Shows n V' S1 := by
  obtain ⟨hok, hsh⟩ := h.shows.release h.bd.1 h.bd.2 (h.sin.size h.sin.first) hr
  have htk := h.shows.taken h.bd.1 h.bd.2 hok
  have := release_sp h.sin at_ hN
  rw [htk] at this
  simp only [if_true] at this
  exact this.mono fun e w' ⟨he, hs⟩ => ⟨he, _, _, TSt.of hs h.lt, hsh⟩
end
end
/-! TMod -/
section
set_option linter.unusedSimpArgs false
set_option linter.unusedVariables false
open Go.RowKit Go.Maps Go.Shelf

def minB (a b : ByteArray) : ByteArray := if (ltB a b || a.toList == b.toList) = true then a else b
/-- the key of the first entry -/
def key0 : List Ent → ByteArray
  | [] => ⟨#[]⟩
  | q :: _ => q.1
/-- a page is written; where it is too long it is cut -/
def finM (f m root : Nat) (S : TS) (at_ kind : Nat) (l : List Ent) : Option (TS × List Ent) :=
  if lSize l ≤ 256 then (storeM f m S at_ kind l).map fun S1 => (S1, [(key0 l, nmB at_)])
  else if at_ = root then
    (allocM f m S).bind fun p1 => (allocM f m p1.2).bind fun p2 => (storeM f m p2.2 p1.1 kind (l.take (lCut l))).bind fun S3 => (storeM f m S3 p2.1 kind (l.drop (lCut l))).bind fun S4 =>
      (storeM f m S4 at_ 2 [(key0 (l.take (lCut l)), nmB p1.1), (key0 (l.drop (lCut l)), nmB p2.1)]).map fun S5 => (S5, [(⟨#[]⟩, nmB at_)])
  else
    (allocM f m S).bind fun p1 => (storeM f m p1.2 at_ kind (l.take (lCut l))).bind fun S2 => (storeM f m S2 p1.1 kind (l.drop (lCut l))).map fun S3 =>
      (S3, [(key0 (l.take (lCut l)), nmB at_), (key0 (l.drop (lCut l)), nmB p1.1)])
/-- an entry put below a page -/
def putM (f m root : Nat) (key value : ByteArray) : Nat → TS → Nat → Option (TS × List Ent)
  | 0, _, _ => none
  | d + 1, S, at_ => (loadM S at_).bind fun p =>
    if p.1 = 1 then finM f m root S at_ 1 (lPut p.2 key value)
    else match p.2[cIx p.2 key]? with
      | none => none
      | some e => if e.2.size < 2 then none else (putM f m root key value d S (pgN e.2)).bind fun r => match r.2 with
        | [] => none
        | q :: qs => finM f m root r.1 at_ p.1 (repL p.2 (cIx p.2 key) ((minB e.1 q.1, q.2) :: qs))
/-- two pages side by side made one, if they fit -/
def joinM (f m : Nat) (S : TS) (l : List Ent) (i : Nat) : Option (TS × List Ent) :=
  match l[i]?, l[i + 1]? with
  | some x, some y => if x.2.size < 2 ∨ y.2.size < 2 then none else (loadM S (pgN x.2)).bind fun a => (loadM S (pgN y.2)).bind fun b =>
      if b.2 = [] then none else if 256 < lSize (a.2 ++ b.2) then some (S, l)
      else (storeM f m S (pgN x.2) a.1 (a.2 ++ b.2)).bind fun S1 => (relM f m S1 (pgN y.2)).map fun S2 => (S2, l.take (i + 1) ++ l.drop (i + 1 + 1))
  | _, _ => some (S, l)
/-- a key taken out below a page -/
def takeM (f m : Nat) (key : ByteArray) : Nat → TS → Nat → Option (TS × Nat × Bool)
  | 0, _, _ => none
  | d + 1, S, at_ => (loadM S at_).bind fun p =>
    if p.1 = 1 then
      if lHas p.2 key then (storeM f m S at_ 1 (lTake p.2 key)).map fun S1 => (S1, (lTake p.2 key).length, true) else some (S, p.2.length, false)
    else match p.2[cIx p.2 key]? with
      | none => none
      | some e => if e.2.size < 2 then none else (takeM f m key d S (pgN e.2)).bind fun r =>
        if r.2.2 = false then some (r.1, p.2.length, false)
        else (if r.2.1 = 0 then (relM f m r.1 (pgN e.2)).map fun S1 => (S1, p.2.take (cIx p.2 key) ++ p.2.drop (cIx p.2 key + 1))
              else (joinM f m r.1 p.2 (cIx p.2 key)).bind fun j1 => if cIx p.2 key = 0 then some j1 else joinM f m j1.1 j1.2 (cIx p.2 key - 1)).bind fun j =>
          if j.2 = [] then (storeM f m j.1 at_ 1 []).map fun S2 => (S2, 0, true)
          else (storeM f m j.1 at_ p.1 j.2).map fun S2 => (S2, j.2.length, true)
/-- the entries from a key on, and the pages that are met -/
def walkM (from_ : ByteArray) : Nat → TS → Nat → Option (List Ent × List Nat)
  | 0, _, _ => none
  | d + 1, S, at_ => (loadM S at_).bind fun p =>
    if p.1 = 1 then some (p.2.drop (lIx p.2 from_), [at_])
    else (walksM from_ S (walkM from_ d S) (p.2.drop (cIx p.2 from_))).map fun r => (r.1, at_ :: r.2)
where
  walksM (from_ : ByteArray) (S : TS) (g : Nat → Option (List Ent × List Nat)) : List Ent → Option (List Ent × List Nat)
    | [] => some ([], [])
    | e :: r => if e.2.size < 2 then none else (g (pgN e.2)).bind fun a => (walksM from_ S g r).map fun b => (a.1 ++ b.1, a.2 ++ b.2)
/-- a key's value -/
def getM (key : ByteArray) : Nat → TS → Nat → Option (Option ByteArray)
  | 0, _, _ => none
  | d + 1, S, at_ => (loadM S at_).bind fun p =>
    if p.1 = 1 then some (if lHas p.2 key then (p.2[lIx p.2 key]?).map (·.2) else none)
    else match p.2[cIx p.2 key]? with
      | none => none
      | some e => if e.2.size < 2 then none else getM key d S (pgN e.2)

/-! ### sizes -/
theorem lSum_rep (l m : List Ent) (i : Nat) : lSum (repL l i m) ≤ lSum l + lSum m := by
  unfold repL
  rw [lSum_append, lSum_append]
  by_cases h : i < l.length
  · have h1 : lSum l = lSum (l.take i) + lSum (l.drop i) := by rw [← lSum_append, List.take_append_drop]
    have h2 : lSum (l.drop (i + 1)) ≤ lSum (l.drop i) := by
      rw [List.drop_eq_getElem_cons h]; show lSum _ ≤ lSum (_ :: _); simp only [lSum, List.map_cons, List.sum_cons]; omega
    omega
  · rw [List.take_of_length_le (by omega), List.drop_of_length_le (by omega)]; simp [lSum]
theorem lSum_ins (l m : List Ent) (i : Nat) : lSum (insL l i m) = lSum l + lSum m := by
  unfold insL
  rw [lSum_append, lSum_append]
  have h1 : lSum l = lSum (l.take i) + lSum (l.drop i) := by rw [← lSum_append, List.take_append_drop]
  omega
theorem lSum_put (l : List Ent) (key value : ByteArray) : lSum (lPut l key value) ≤ lSum l + (2 + key.size + value.size) := by
  unfold lPut
  split
  · have := lSum_rep l [(key, value)] (lIx l key); simpa [lSum] using this
  · rw [lSum_ins]; simp [lSum]
theorem lPut_ne (l : List Ent) (key value : ByteArray) : 0 < (lPut l key value).length := by
  unfold lPut
  split
  · unfold repL; simp; omega
  · unfold insL; simp; omega
section
variable {f m root : Nat} {S S' : TS} {at_ kind : Nat} {l : List Ent}
theorem storeM_fine (h : storeM f m S at_ kind l = some S') : Fine kind l ∧ okM f m S at_ = true := by
  unfold storeM at h
  split at h
  · rename_i hc
    simp only [Bool.and_eq_true] at hc
    exact ⟨okB_fine.1 hc.1, hc.2⟩
  · cases h
theorem key0_fine (h : Fine kind l) : (key0 l).size ≤ 32 := by
  cases l with
  | nil => simp [key0]; exact Nat.zero_le _
  | cons q r => exact (h.all q (by simp)).1
/-- what put hands back -/
structure Parts (ps : List Ent) : Prop where
  ne : 0 < ps.length
  le : ps.length ≤ 2
  ok : ∀ q ∈ ps, q.1.size ≤ 32 ∧ q.2.size = 2
theorem finM_parts {r : TS × List Ent} (h : finM f m root S at_ kind l = some r) : Parts r.2 := by
  unfold finM at h
  split at h
  · simp only [Option.map_eq_some_iff] at h
    obtain ⟨S1, h1, rfl⟩ := h
    exact ⟨by simp, by simp, fun q hq => by simp at hq; subst hq; exact ⟨key0_fine (storeM_fine h1).1, nmB_size _⟩⟩
  · split at h
    · simp only [Option.map_eq_some_iff, Option.bind_eq_some_iff] at h
      obtain ⟨p1, h1, p2, h2, S3, h3, S4, h4, S5, h5, rfl⟩ := h
      exact ⟨by simp, by simp, fun q hq => by simp at hq; subst hq; exact ⟨by simp; exact Nat.zero_le _, nmB_size _⟩⟩
    · simp only [Option.map_eq_some_iff, Option.bind_eq_some_iff] at h
      obtain ⟨p1, h1, S2, h2, S3, h3, rfl⟩ := h
      exact ⟨by simp, by simp, fun q hq => by
        simp at hq
        rcases hq with rfl | rfl
        · exact ⟨key0_fine (storeM_fine h2).1, nmB_size _⟩
        · exact ⟨key0_fine (storeM_fine h3).1, nmB_size _⟩⟩
theorem putM_parts {key value : ByteArray} {r : TS × List Ent} : ∀ {d : Nat} {S : TS} {at_ : Nat}, putM f m root key value d S at_ = some r → Parts r.2
  | 0, _, _, h => by simp [putM] at h
  | d + 1, S, at_, h => by
    simp only [putM, Option.bind_eq_some_iff] at h
    obtain ⟨p, h1, h⟩ := h
    split at h
    · exact finM_parts h
    · split at h
      · cases h
      · split at h
        · cases h
        · simp only [Option.bind_eq_some_iff] at h
          obtain ⟨r1, h2, h⟩ := h
          split at h
          · cases h
          · exact finM_parts h
end
end
/-! TRun -/
section
set_option linter.unusedSimpArgs false
set_option linter.unusedVariables false
open Go.RowKit Go.Maps Go.Shelf

structure TRun (w0 w W : World) (s d : Nat) (F F' : Nat → Prop) (n : Int) (V D : Int → ByteArray) (N : Int) (t root : Nat) (S : TS) : Prop where
  tin : TIn w0 W s d F' n V D N t root S
  tst : TSt w0 w W s d F F' n V D N
/-- a row of entries of one's own, none of the space's -/
structure Row (W : World) (F : Nat → Prop) (B : Nat) (v : Value) (l : List Ent) : Prop where
  own : EOwn W B v l
  out : ∀ b, v.ownBlock = some b → ¬ F b
def Keeps (W : World) (F : Nat → Prop) (W' : World) (F' : Nat → Prop) : Prop := ∀ B v l, Row W F B v l → Row W' F' B v l
section
variable {w0 w W W1 : World} {s d t root B : Nat} {F F' F1 : Nat → Prop} {n N M : Int} {V D V1 : Int → ByteArray} {S S1 : TS} {v : Value} {l : List Ent}
theorem TIn.run (h : TIn w0 w s d F n V D N t root S) : TRun w0 w w s d F F n V D N t root S := ⟨h, h.refl⟩
theorem TRun.made (h : TRun w0 w W s d F F' n V D N t root S) (hB : Below W.heap.size W W1) : TRun w0 w W1 s d F F' n V D N t root S := ⟨h.tin.made hB, h.tst.made hB⟩
theorem TRun.step (h : TRun w0 w W s d F F' n V D N t root S) (k : TSt w0 W W1 s d F' F1 n V1 D M) (hS : Shows n V1 S1) : TRun w0 w W1 s d F F1 n V1 D M t root S1 := ⟨h.tin.step k hS, h.tst.trans k⟩
theorem TRun.size (h : TRun w0 w W s d F F' n V D N t root S) : w.heap.size ≤ W.heap.size := h.tst.upd.size
theorem Row.made (h : Row W F B v l) (hB : Below W.heap.size W W1) : Row W1 F B v l := ⟨h.own.made hB, h.out⟩
theorem Row.base {B' : Nat} (h : Row W F B v l) (hb : B' ≤ B) : Row W F B' v l := ⟨h.own.base hb, h.out⟩
theorem Row.new (h : TRun w0 w W s d F F' n V D N t root S) (ho : EOwn W1 W.heap.size v l) : Row W1 F' w.heap.size v l :=
  ⟨ho.base h.size, fun b hb hf => by
    have h1 := (ho.lt b hb).1
    have h2 := h.tin.lt b hf
    omega⟩
theorem Row.parts (h : Row W F B v l) : ∃ ao c, v = .slice ao l.length c ∧ ERow W ao l ∧ (∀ a, ao = some a → ∃ g off, a = ⟨g, off, none⟩) ∧ (ao = none → l = [] ∧ c = 0) ∧ l.length ≤ c := by
  obtain ⟨ao, c, rfl, hr, -⟩ := h.own.parts
  refine ⟨ao, c, rfl, hr, fun a e => ?_, fun e => ?_, ?_⟩
  · subst e
    obtain ⟨g, cur, rfl, -⟩ := h.own.block
    exact ⟨g, 0, rfl⟩
  · subst e
    rcases h.own.2 with ⟨hv, h0⟩ | ⟨g, cap, cur, hv, _⟩
    · simp at hv
      exact ⟨List.length_eq_zero_iff.1 h0, hv.2⟩
    · simp at hv
  · rcases h.own.2 with ⟨hv, h0⟩ | ⟨g, cap, cur, hv, hb, hg, hn, _⟩
    · simp at hv; omega
    · simp at hv; omega
theorem Keeps.refl (W : World) (F : Nat → Prop) : Keeps W F W F := fun _ _ _ h => h
theorem Keeps.trans {W2 : World} {F2 : Nat → Prop} (h : Keeps W F W1 F1) (k : Keeps W1 F1 W2 F2) : Keeps W F W2 F2 := fun B v l hr => k B v l (h B v l hr)
theorem Keeps.made (h : Keeps W F W1 F1) {W2 : World} (hB : Below W1.heap.size W1 W2) : Keeps W F W2 F1 := fun B v l hr => (h B v l hr).made hB
theorem TSt.keeps (k : TSt w0 W W1 s d F F1 n V1 D N) : Keeps W F W1 F1 := fun B v l hr => by
  obtain ⟨a, b⟩ := k.row hr.own hr.out
  exact ⟨a, b⟩
theorem load_run (h : TRun w0 w W s d F F' n V D N t root S) (at_ kind : Nat) (l : List Ent) (hp : loadM S at_ = some (kind, l)) (hN : N < 2305843009213693000) :
    Calls Tryz.prog 39 #[.pointer (some ⟨t, 0, none⟩), .int .i64 at_] W fun e w' => ∃ F1 v, e = .returned (.tuple #[.int .i64 kind, v]) ∧ TRun w0 w w' s d F F1 n V D (N + 4) t root S ∧ Row w' F1 w.heap.size v l ∧ Keeps W F' w' F1 := by
  refine (tload_any h.tin at_ kind l hp hN).mono ?_
  rintro e w' ⟨F1, v, he, hst, ho, hout⟩
  exact ⟨F1, v, he, h.step hst h.tin.shows, ⟨ho.base h.size, hout⟩, hst.keeps⟩
theorem store_run (h : TRun w0 w W s d F F' n V D N t root S) (at_ kind : Nat) (l : List Ent) (ao : Option Addr) (c : Nat) (hr : ERow W ao l) (hs : storeM (jFirst n).toNat (spMany n) S at_ kind l = some S1) (hN : N < 2305843009213693000) :
    Calls Tryz.prog 29 #[.pointer (some ⟨t, 0, none⟩), .int .i64 at_, .int .i64 kind, .slice ao l.length c] W fun e w' => ∃ F1 V1, e = .returned (.tuple #[]) ∧ TRun w0 w w' s d F F1 n V1 D (N + 4) t root S1 ∧ Keeps W F' w' F1 := by
  refine (tstore_any h.tin at_ kind l ao c hr hs hN).mono ?_
  rintro e w' ⟨F1, V1, he, hst, hsh⟩
  exact ⟨F1, V1, he, h.step hst hsh, hst.keeps⟩
theorem alloc_run (h : TRun w0 w W s d F F' n V D N t root S) (at_ : Nat) (ha : allocM (jFirst n).toNat (spMany n) S = some (at_, S1)) (hN : N < 2305843009213693000) :
    Calls Tryz.prog 28 #[.pointer (some ⟨t, 0, none⟩)] W fun e w' => ∃ F1 V1, e = .returned (.int .i64 at_) ∧ TRun w0 w w' s d F F1 n V1 D (N + 4) t root S1 ∧ Keeps W F' w' F1 := by
  refine (talloc_any h.tin at_ ha hN).mono ?_
  rintro e w' ⟨F1, V1, he, hst, hsh⟩
  exact ⟨F1, V1, he, h.step hst hsh, hst.keeps⟩
theorem rel_run (h : TRun w0 w W s d F F' n V D N t root S) (at_ : Nat) (hr : relM (jFirst n).toNat (spMany n) S at_ = some S1) (hN : N < 2305843009213693000) :
    Calls Tryz.prog 45 #[.pointer (some ⟨s, 0, none⟩), .int .i64 at_] W fun e w' => e = .returned (.int .i64 0) ∧ ∃ F1 V1, TRun w0 w w' s d F F1 n V1 D (N + 4) t root S1 ∧ Keeps W F' w' F1 := by
  refine (trel_any h.tin at_ hr hN).mono ?_
  rintro e w' ⟨he, F1, V1, hst, hsh⟩
  exact ⟨he, F1, V1, h.step hst hsh, hst.keeps⟩
theorem TRun.mono (h : TRun w0 w W s d F F' n V D N t root S) (hle : N ≤ M) : TRun w0 w W s d F F' n V D M t root S := ⟨⟨h.tin.sin.mono hle, h.tin.lt, h.tin.at_, h.tin.shows⟩, h.tst.mono hle⟩
theorem okM_lt (h1 : 64 ≤ n) (h2 : n ≤ 2048) {at_ : Nat} (h : okM (jFirst n).toNat (spMany n) S at_ = true) : at_ < 2048 := by
  obtain ⟨a, b, -⟩ := okM_bd h
  obtain ⟨-, e, -⟩ := first_nat h1 h2
  omega
theorem loadM_ok {kind at_ : Nat} (h : Shows n V S) (hp : loadM S at_ = some (kind, l)) : Fine kind l ∧ okM (jFirst n).toNat (spMany n) S at_ = true := by
  obtain ⟨p1, p2, p3⟩ := h.page _ _ _ (loadM_some hp).1
  exact ⟨p1, p3⟩
end
end
end Go.Proofs.YtmgcaohpbaiiaaaGreatDoor
