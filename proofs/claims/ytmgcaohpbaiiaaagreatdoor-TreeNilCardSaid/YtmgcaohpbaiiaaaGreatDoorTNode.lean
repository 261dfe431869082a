/- Tree.load, store, alloc; a space's Release in a tree. -/
import Derived.Test.YtmgcaohpbaiiaaaGreatDoorTStep
set_option linter.unusedSimpArgs false
set_option linter.unusedVariables false
namespace Go.Proofs.YtmgcaohpbaiiaaaGreatDoor
open Go.RowKit Go.Maps Go.Shelf

/-- a tree in a space, at a state of its pages -/
structure TIn (w0 w : World) (s d : Nat) (F : Nat → Prop) (n : Int) (V D : Int → ByteArray) (N : Int) (t root : Nat) (S : TS) : Prop where
  sin : SIn w0 w s d F n V D N
  lt : ∀ b, F b → b < w.heap.size
  at_ : TAt w F t s root
  shows : Shows n V S
section
variable {w0 w w1 w2 : World} {s d t root : Nat} {F F1 F2 : Nat → Prop} {n N N1 N2 : Int} {V D V1 D1 V2 D2 : Int → ByteArray} {S S1 S2 : TS}
theorem TIn.step (h : TIn w0 w s d F n V D N t root S) (k : TSt w0 w w1 s d F F1 n V1 D1 N1) (hS : Shows n V1 S1) : TIn w0 w1 s d F1 n V1 D1 N1 t root S1 := ⟨k.sin, k.lt, h.at_.step k, hS⟩
theorem TIn.made (h : TIn w0 w s d F n V D N t root S) (hB : Below w.heap.size w w1) : TIn w0 w1 s d F n V D N t root S :=
  ⟨h.sin.made hB, fun b hb => by have := h.lt b hb; have := hB.size; omega, h.at_.made hB, h.shows⟩
theorem TIn.refl (h : TIn w0 w s d F n V D N t root S) : TSt w0 w w s d F F n V D N := TSt.refl h.sin h.lt
theorem TIn.bd (h : TIn w0 w s d F n V D N t root S) : 64 ≤ n ∧ n ≤ 2048 := h.sin.bd
theorem TIn.cell (h : TIn w0 w s d F n V D N t root S) : w.cell? ⟨t, 0, none⟩ = some (.pointer (some ⟨s, 0, none⟩)) ∧ w.cell? ⟨t, 1, none⟩ = some (.int .i64 root) := by
  constructor
  · rw [cell_of h.at_.obj]; rfl
  · rw [cell_of h.at_.obj]; rfl
theorem loadM_some {at_ kind : Nat} {l : List Ent} (h : loadM S at_ = some (kind, l)) : S.pg at_ = some (kind, l) ∧ ¬ (kind = 2 ∧ l = []) := by
  unfold loadM at h
  cases hp : S.pg at_ with
  | none => rw [hp] at h; cases h
  | some q =>
    obtain ⟨k, l'⟩ := q
    rw [hp] at h
    simp only at h
    split at h
    · cases h
    · rename_i hc
      simp at h
      obtain ⟨rfl, rfl⟩ := h
      exact ⟨rfl, hc⟩
set_option maxHeartbeats 2000000 in
set_option maxRecDepth 100000 in
theorem tload_any (h : TIn w0 w s d F n V D N t root S) (at_ kind : Nat) (l : List Ent) (hp : loadM S at_ = some (kind, l)) (hN : N < 2305843009213693000) :
    Calls Tryz.prog 39 #[.pointer (some ⟨t, 0, none⟩), .int .i64 at_] w fun e w' => ∃ F' v, e = .returned (.tuple #[.int .i64 kind, v]) ∧ TSt w0 w w' s d F F' n V D (N + 4) ∧ EOwn w' w.heap.size v l ∧ (∀ b, v.ownBlock = some b → ¬ F' b) := by
  obtain ⟨hp1, hp2⟩ := loadM_some hp
  obtain ⟨hf, hv, hok⟩ := h.shows.page _ _ _ hp1
  have htk := h.shows.taken h.bd.1 h.bd.2 hok
  have hG := get_sp h.sin at_ hN
  rw [htk] at hG
  simp only [if_true] at hG
  rw [hv] at hG
  have HU : Hid (∀ W, Calls Tryz.prog 74 #[.string (packB kind l)] W fun e w' => ∃ v, e = .returned (.tuple #[.int .i64 kind, v, .int .i64 0]) ∧ EOwn w' W.heap.size v l ∧ Below W.heap.size W w') := fun W => unpack_any W kind l hf
  have HM : Hid (∀ W, Calls Tryz.prog 44 #[.int .i64 0] W fun e w' => e = .returned (.tuple #[]) ∧ W = w') := fun W => must_ok W
  have HT : Hid (∀ w1, SStp w0 w w1 s d F n V D (N + 4) → ∀ w2 v, Below w1.heap.size w1 w2 → EOwn w2 w1.heap.size v l → ∃ F', TSt w0 w w2 s d F F' n V D (N + 4) ∧ EOwn w2 w.heap.size v l ∧ (∀ b, v.ownBlock = some b → ¬ F' b)) := fun w1 hs w2 v hB ho => by
    have ht := TSt.of hs h.lt
    refine ⟨_, ht.made hB, ho.base hs.upd.size, fun b hb hf => ?_⟩
    have h1 := (ho.lt b hb).1
    have h2 := ht.lt b hf
    omega
  obtain ⟨c0, -⟩ := h.cell
  have hk := hf.kind
  have hl2 : kind = 2 → ¬ (l.length : Int) = 0 := fun e hl => hp2 ⟨e, List.length_eq_zero_iff.1 (by omega)⟩
  clear h hp hp1 hp2 hf hv hok htk
  generalize packB kind l = pk at *
  rcases hk with rfl | rfl
  · clear hl2
    go_enter Tryz.func39, Tryz.ntmps39
    go_wp2_with fail
    refine hG.mono ?_
    rintro e w1 ⟨rfl, hs⟩
    have HT2 := Lib.hid (HT.out w1 hs)
    have hm := HM.out w1
    have hu := HU.out w1
    clear hG HT HU hs
    go_wp2_with fail
    refine hm.mono ?_
    rintro e w' ⟨rfl, rfl⟩
    go_wp2_with fail
    refine hu.mono ?_
    rintro e w2 ⟨v, rfl, ho, hB⟩
    obtain ⟨F', hf1, hf2, hf3⟩ := HT2.out w2 v hB ho
    have hm2 := HM.out w2
    clear HM hm hu HT2
    go_wp2_with fail
    refine hm2.mono ?_
    rintro e w' ⟨rfl, rfl⟩
    go_wp2
    go_ret2
    exact ⟨F', v, rfl, hf1, hf2, hf3⟩
  · have hl3 := hl2 rfl
    clear hl2
    have HP : Hid (∀ W v, EOwn W w.heap.size v l → ∃ ao c, v = .slice ao l.length c) := fun W v h => by
      obtain ⟨ao, c, e, -⟩ := h.parts
      exact ⟨ao, c, e⟩
    go_enter Tryz.func39, Tryz.ntmps39
    go_wp2_with fail
    refine hG.mono ?_
    rintro e w1 ⟨rfl, hs⟩
    have HT2 := Lib.hid (HT.out w1 hs)
    have hm := HM.out w1
    have hu := HU.out w1
    clear hG HT HU hs
    go_wp2_with fail
    refine hm.mono ?_
    rintro e w' ⟨rfl, rfl⟩
    go_wp2_with fail
    refine hu.mono ?_
    rintro e w2 ⟨v, rfl, ho, hB⟩
    obtain ⟨F', hf1, hf2, hf3⟩ := HT2.out w2 v hB ho
    obtain ⟨ao, c, rfl⟩ := HP.out w2 v hf2
    have hm2 := HM.out w2
    have HF2 := Lib.hid hf2
    clear HM hm hu HT2 hf2 ho
    generalize l.length = m at *
    go_wp2_with fail
    refine hm2.mono ?_
    rintro e w' ⟨rfl, rfl⟩
    go_wp2
    go_ret2
    exact ⟨F', _, rfl, hf1, HF2.out, hf3⟩
set_option maxHeartbeats 2000000 in
set_option maxRecDepth 100000 in
theorem tstore_any (h : TIn w0 w s d F n V D N t root S) (at_ kind : Nat) (l : List Ent) (ao : Option Addr) (c : Nat) (hr : ERow w ao l) (hs : storeM (jFirst n).toNat (spMany n) S at_ kind l = some S1) (hN : N < 2305843009213693000) :
    Calls Tryz.prog 29 #[.pointer (some ⟨t, 0, none⟩), .int .i64 at_, .int .i64 kind, .slice ao l.length c] w fun e w' => ∃ F' V', e = .returned (.tuple #[]) ∧ TSt w0 w w' s d F F' n V' D (N + 4) ∧ Shows n V' S1 := by
  obtain ⟨hf, hok, hsh⟩ := h.shows.store h.bd.1 h.bd.2 hs
  have htk := h.shows.taken h.bd.1 h.bd.2 hok
  have hP := pack_any w ao c kind l hr hf
  have hsz := packB_size (kind := kind) hf.size
  have HG : Hid (∀ W, Below w.heap.size w W → W.cell? ⟨t, 0, none⟩ = some (.pointer (some ⟨s, 0, none⟩)) ∧ Calls Tryz.prog 71 #[.pointer (some ⟨s, 0, none⟩), .int .i64 at_, .string (packB kind l)] W fun e w' => e = .returned (.int .i64 0) ∧ ∃ F' V', TSt w0 w w' s d F F' n V' D (N + 4) ∧ Shows n V' S1) := fun W hB => by
    have h1 := h.made hB
    refine ⟨h1.cell.1, ?_⟩
    have hp0 : spPut n V at_ (packB kind l) = 0 := by unfold spPut; rw [if_neg (by simp [htk]), if_neg (by simp [hsz])]
    have := put_sp h1.sin at_ (packB kind l) (by omega) hN
    rw [hp0] at this
    simp only [if_true] at this
    refine this.mono ?_
    rintro e w' ⟨he, hst⟩
    exact ⟨he, _, _, (h.refl.made hB).trans (TSt.of hst h1.lt), hsh⟩
  have HM : Hid (∀ W, Calls Tryz.prog 44 #[.int .i64 0] W fun e w' => e = .returned (.tuple #[]) ∧ W = w') := fun W => must_ok W
  clear h hr hs hf hok hsh htk hsz
  generalize packB kind l = pk at *
  generalize l.length = m at *
  go_enter Tryz.func29, Tryz.ntmps29
  go_wp2_with fail
  refine hP.mono ?_
  rintro e w1 ⟨rfl, hB⟩
  obtain ⟨c0, hg⟩ := HG.out w1 hB
  have hm := HM.out w1
  clear HG hP
  go_wp2_with fail
  refine hm.mono ?_
  rintro e w' ⟨rfl, rfl⟩
  go_wp2_with fail
  refine hg.mono ?_
  rintro e w2 ⟨rfl, F', V', hf1, hf2⟩
  have hm2 := HM.out w2
  clear HM hm hg
  go_wp2_with fail
  refine hm2.mono ?_
  rintro e w' ⟨rfl, rfl⟩
  go_wp2
  go_end0
  exact ⟨F', V', rfl, hf1, hf2⟩
set_option maxHeartbeats 2000000 in
set_option maxRecDepth 100000 in
theorem talloc_any (h : TIn w0 w s d F n V D N t root S) (at_ : Nat) (ha : allocM (jFirst n).toNat (spMany n) S = some (at_, S1)) (hN : N < 2305843009213693000) :
    Calls Tryz.prog 28 #[.pointer (some ⟨t, 0, none⟩)] w fun e w' => ∃ F' V', e = .returned (.int .i64 at_) ∧ TSt w0 w w' s d F F' n V' D (N + 4) ∧ Shows n V' S1 := by
  obtain ⟨e1, -, -⟩ := first_nat h.bd.1 h.bd.2
  unfold allocM at ha
  cases hj : nextM (spMany n) S with
  | none => rw [hj] at ha; cases ha
  | some j =>
    rw [hj] at ha
    simp at ha
    obtain ⟨rfl, rfl⟩ := ha
    obtain ⟨h1, h2⟩ := h.shows.alloc h.bd.1 h.bd.2 (h.sin.size h.sin.first) hj
    have hA := alloc_some h.sin h1 hN
    rw [show jFirst n + 1 + (j : Int) = (((jFirst n).toNat + 1 + j : Nat) : Int) by push_cast; omega] at hA
    have HT : Hid (∀ w', SStp w0 w w' s d F n (spGot n V j) D (N + 4) → TSt w0 w w' s d F (ext F w w') n (spGot n V j) D (N + 4)) := fun w' hs => TSt.of hs h.lt
    have HM : Hid (∀ W, Calls Tryz.prog 44 #[.int .i64 0] W fun e w' => e = .returned (.tuple #[]) ∧ W = w') := fun W => must_ok W
    obtain ⟨c0, -⟩ := h.cell
    have H2 := Lib.hid h2
    clear h h1 h2 hj e1
    generalize (jFirst n).toNat + 1 + j = a at *
    go_enter Tryz.func28, Tryz.ntmps28
    go_wp2_with fail
    refine hA.mono ?_
    rintro e w1 ⟨rfl, hs⟩
    have hm := HM.out w1
    clear hA
    go_wp2_with fail
    refine hm.mono ?_
    rintro e w' ⟨rfl, rfl⟩
    go_wp2
    go_ret
    exact ⟨_, _, rfl, HT.out _ hs, H2.out⟩
/-- a page is given back -/
theorem trel_any (h : TIn w0 w s d F n V D N t root S) (at_ : Nat) (hr : relM (jFirst n).toNat (spMany n) S at_ = some S1) (hN : N < 2305843009213693000) :
    Calls Tryz.prog 45 #[.pointer (some ⟨s, 0, none⟩), .int .i64 at_] w fun e w' => e = .returned (.int .i64 0) ∧ ∃ F' V', TSt w0 w w' s d F F' n V' D (N + 4) ∧ Shows n V' S1 := by
  obtain ⟨hok, hsh⟩ := h.shows.release h.bd.1 h.bd.2 (h.sin.size h.sin.first) hr
  have htk := h.shows.taken h.bd.1 h.bd.2 hok
  have := release_sp h.sin at_ hN
  rw [htk] at this
  simp only [if_true] at this
  exact this.mono fun e w' ⟨he, hs⟩ => ⟨he, _, _, TSt.of hs h.lt, hsh⟩
end
end Go.Proofs.YtmgcaohpbaiiaaaGreatDoor
