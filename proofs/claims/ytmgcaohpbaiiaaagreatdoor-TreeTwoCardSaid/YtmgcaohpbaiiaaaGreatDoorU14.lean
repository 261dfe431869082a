/- does: an act on a tree and on the entries that it must have · does: Delete, Get, List. -/
import Derived.Test.YtmgcaohpbaiiaaaGreatDoorU13
import Derived.Test.YtmgcaohpbaiiaaaGreatDoorU11
import Derived.Test.YtmgcaohpbaiiaaaGreatDoorKind
import Derived.Deep.RegionLaw
namespace Go.Proofs.YtmgcaohpbaiiaaaGreatDoor
/-! TDoes -/
section
set_option linter.unusedSimpArgs false
set_option linter.unusedVariables false
open Go.RowKit Go.Maps Go.Shelf

def actV (k : Int) (key value : ByteArray) (nn : Int) : Value := .agg #[.int .i64 k, .string key, .string value, .int .i64 nn]
def actCells (k : Int) (key value : ByteArray) (nn : Int) : Obj := .cells #[.int .i64 k, .string key, .string value, .int .i64 nn] 35
/-- the entries behind an act -/
def actL (k : Int) (key value : ByteArray) (l : List Ent) : List Ent :=
  if kindI k 8 < 4 then (if key.size = 0 ∨ 32 < key.size ∨ 64 < value.size then l else putL l key value) else if kindI k 8 < 6 then takeL l key else l
/-- how a tree and its entries lie in memory while the acts go on -/
structure TWorld (w0 w : World) (s dk t root : Nat) (F : Nat → Prop) (n : Int) (V D : Int → ByteArray) (N : Int) (S : TS) (l : List Ent) (P : List Nat) (B : Nat) : Prop where
  tin : TIn w0 w s dk F n V D N t root S
  tl : TreeL (jFirst n).toNat (spMany n) S root l P B
theorem TWorld.fm {w0 w : World} {s dk t root : Nat} {F : Nat → Prop} {n : Int} {V D : Int → ByteArray} {N : Int} {S : TS} {l : List Ent} {P : List Nat} {B : Nat} (h : TWorld w0 w s dk t root F n V D N S l P B) : (jFirst n).toNat + spMany n < 65536 := by
  have := first_nat h.tin.bd.1 h.tin.bd.2
  omega
def DoesPost (w0 w : World) (s dk t root : Nat) (F : Nat → Prop) (n : Int) (D : Int → ByteArray) (N : Int) (S : TS) (P : List Nat) (B B0 : Nat) (l' : List Ent) (e : Ending) (w' : World) : Prop :=
  ∃ F' V' S' P' ao c, e = .returned (.tuple #[.slice ao l'.length c, .bool true]) ∧ TRun w0 w w' s dk F F' n V' D (N + 8000) t root S' ∧ Row w' F' B0 (.slice ao l'.length c) l' ∧ TreeL (jFirst n).toNat (spMany n) S' root l' P' (B + 98) ∧ Ext (jFirst n).toNat (spMany n) S S' P P'
section
variable {w0 w W : World} {s dk t root B B0 c : Nat} {F : Nat → Prop} {n N : Int} {V D : Int → ByteArray} {S S1 : TS} {l : List Ent} {P : List Nat} {ao : Option Addr}
theorem TreeL.mono {f m : Nat} {B' : Nat} (h : TreeL f m S root l P B) (hB : B ≤ B') : TreeL f m S root l P B' := by
  obtain ⟨d, L, h1, h2, h3, h4⟩ := h
  exact ⟨d, L, h1, h2, h3, by omega⟩
theorem TreeL.refl {f m : Nat} (h : TreeL f m S root l P B) : Ext f m S S P P := Ext.refl h.nd.2.1
set_option maxHeartbeats 4000000 in
set_option maxRecDepth 100000 in
theorem does_put (h : TWorld w0 w s dk t root F n V D N S l P B) (hrow : Row w F B0 (.slice ao l.length c) l) (hB0 : B0 ≤ w.heap.size) (k nn : Int) (key value : ByteArray) (hkw : (Lit.int .i64 k).wf = true) (hK : kindI k 8 = 0 ∨ kindI k 8 = 1 ∨ kindI k 8 = 2 ∨ kindI k 8 = 3)
    (hkey : ¬ (key.size = 0 ∨ 32 < key.size ∨ 64 < value.size)) (hB : B ≤ 38000) (hc : cntM (spMany n) S + 6 ≤ spMany n) (hN : N < 100000000) :
    Calls Tryz.prog 12 #[.pointer (some ⟨t, 0, none⟩), .slice ao l.length c, actV k key value nn] w (DoesPost w0 w s dk t root F n D N S P B B0 (putL l key value)) := by
  obtain ⟨S', ps, P', hput, hT', hE⟩ := h.tl.put (key := key) (value := value) h.fm (by omega) (by omega) (by omega) (by omega) hc
  have hnf : ¬ F w.heap.size := fun hf => by have := h.tin.lt _ hf; omega
  have hB1 : Below w.heap.size w (w.alloc (actCells k key value nn)) := (Below.refl _ w).alloc (Nat.le_refl _) _
  have hk0 : key.toList.isEmpty = false := by
    cases hx : key.toList with
    | nil =>
      exfalso
      rw [ByteArray.toList_eq] at hx
      have : key.size = 0 := by
        have h1 : key.data.toList.length = 0 := by rw [hx]; rfl
        simpa using h1
      omega
    | cons a r => rfl
  have hPUT := tput_api (h.tin.made hB1) key value (by omega) (by omega) hk0 ps hput (by omega)
  have hlen := h.tl.len
  have HRF : Hid (∀ w2 F2 V2, TRun w0 (w.alloc (actCells k key value nn)) w2 s dk F F2 n V2 D (N + 6600) t root S' → w2.cell? ⟨w.heap.size, 1, none⟩ = some (.string key) ∧ w2.cell? ⟨w.heap.size, 2, none⟩ = some (.string value) ∧
      Calls Tryz.prog 31 #[.slice ao l.length c, .string key, .string value] w2 fun e w' => ∃ a2 c2, e = .returned (.slice a2 (putL l key value).length c2) ∧ TRun w0 w w' s dk F F2 n V2 D (N + 8000) t root S' ∧ Row w' F2 B0 (.slice a2 (putL l key value).length c2) (putL l key value)) := fun w2 F2 V2 hr => by
    obtain ⟨b1, b2⟩ := hr.stays (heap_alloc_new' w _) hnf
    have hr2 := (hr.drop hB1).mono (show N + 6600 ≤ N + 8000 by omega)
    have hrow2 := hr2.tst.keeps _ _ _ hrow
    obtain ⟨_, _, e0, er, -⟩ := hrow2.parts
    simp at e0
    obtain ⟨rfl, rfl⟩ := e0
    refine ⟨by rw [cell_of b1]; rfl, by rw [cell_of b1]; rfl, (rput_ref w2 ao c l key value er (by omega)).mono ?_⟩
    rintro e w' ⟨a2, c2, he, ho, hB2⟩
    have hB0' := hr2.size
    exact ⟨a2, c2, he, hr2.made hB2, (Row.new hr2 ho).base hB0⟩
  have HK := Lib.hid (fun X => kind_any k 8 X hkw (by omega) (by omega))
  have HT2 := Lib.hid (hT')
  have HE := Lib.hid hE
  have e1 : ¬ ((32 : Int) < (key.size : Int)) := by omega
  have e2 : ¬ ((64 : Int) < (value.size : Int)) := by omega
  clear h hrow hput hT' hE hB1 hkw
  generalize putL l key value = l' at *
  generalize kindI k 8 = kk at *
  unfold actV
  unfold actCells at *
  rcases hK with rfl | rfl | rfl | rfl
  all_goals
    go_enter Tryz.func12, Tryz.ntmps12
    go_wp2_with (go_at_call 30; refine (HK.out _).mono ?_; rintro e w' ⟨rfl, rfl⟩)
    refine hPUT.mono ?_
    rintro e w2 ⟨F2, V2, rfl, hr2⟩
    obtain ⟨b1, b2, hrf⟩ := HRF.out w2 F2 V2 hr2
    clear hPUT HRF hr2 HK
    go_wp2_with fail
    refine hrf.mono ?_
    rintro e w3 ⟨a2, c2, rfl, hr3, hrow3⟩
    clear hrf
    go_wp2
    go_ret2
    exact ⟨F2, V2, S', P', a2, c2, rfl, hr3, hrow3, HT2.out, HE.out⟩
set_option maxHeartbeats 4000000 in
set_option maxRecDepth 100000 in
theorem does_put_no (h : TWorld w0 w s dk t root F n V D N S l P B) (hrow : Row w F B0 (.slice ao l.length c) l) (k nn : Int) (key value : ByteArray) (hkw : (Lit.int .i64 k).wf = true) (hK : kindI k 8 = 0 ∨ kindI k 8 = 1 ∨ kindI k 8 = 2 ∨ kindI k 8 = 3)
    (hkey : key.size = 0 ∨ 32 < key.size ∨ 64 < value.size) (hN : N < 100000000) :
    Calls Tryz.prog 12 #[.pointer (some ⟨t, 0, none⟩), .slice ao l.length c, actV k key value nn] w (DoesPost w0 w s dk t root F n D N S P B B0 l) := by
  have hB1 : Below w.heap.size w (w.alloc (actCells k key value nn)) := (Below.refl _ w).alloc (Nat.le_refl _) _
  have HK := Lib.hid (fun X => kind_any k 8 X hkw (by omega) (by omega))
  have HFN : Hid (∀ w2, Below (w.alloc (actCells k key value nn)).heap.size (w.alloc (actCells k key value nn)) w2 → w2.cell? ⟨w.heap.size, 1, none⟩ = some (.string key) ∧ w2.cell? ⟨w.heap.size, 2, none⟩ = some (.string value) ∧ TRun w0 w w2 s dk F F n V D (N + 8000) t root S ∧ Row w2 F B0 (.slice ao l.length c) l) := fun w2 hB2 => by
    have hB := hB1.trans (hB2.mono hB1.size)
    have b1 := (hB2.block w.heap.size (by simp)).trans (heap_alloc_new' w (actCells k key value nn))
    exact ⟨by rw [cell_of b1]; rfl, by rw [cell_of b1]; rfl, (h.tin.run.made hB).mono (by omega), hrow.made hB⟩
  have HT := Lib.hid (h.tl.mono (show B ≤ B + 98 by omega))
  have HE := Lib.hid h.tl.refl
  clear h hrow hkw hB1
  by_cases h0 : key.size = 0
  · have hk0 : key = ⟨#[]⟩ := ByteArray.ext (Array.eq_empty_of_size_eq_zero h0)
    subst hk0
    have hPUT := tput_empty (t := t) value (w.alloc (actCells k ⟨#[]⟩ value nn))
    clear h0 hkey
    generalize kindI k 8 = kk at *
    unfold actV
    unfold actCells at *
    rcases hK with rfl | rfl | rfl | rfl
    all_goals
      go_enter Tryz.func12, Tryz.ntmps12
      go_wp2_with (go_at_call 30; refine (HK.out _).mono ?_; rintro e w' ⟨rfl, rfl⟩)
      refine hPUT.mono ?_
      rintro e w2 ⟨rfl, hB2⟩
      obtain ⟨b1, b2, f1, f2⟩ := HFN.out w2 hB2
      have F1 := Lib.hid f1
      have F2 := Lib.hid f2
      clear hPUT HFN HK f1 f2 hB2
      go_wp2
      go_ret2
      exact ⟨F, V, S, P, ao, c, rfl, F1.out, F2.out, HT.out, HE.out⟩
  · have hk0 : key.toList.isEmpty = false := by
      cases hx : key.toList with
      | nil =>
        exfalso
        rw [ByteArray.toList_eq] at hx
        have : key.size = 0 := by
          have h1 : key.data.toList.length = 0 := by rw [hx]; rfl
          simpa using h1
        omega
      | cons a r => rfl
    have hl : 32 < key.size ∨ 64 < value.size := by omega
    have hPUT := tput_long (t := t) key value (w.alloc (actCells k key value nn)) hk0 hl
    have hl2 : ((32 : Int) < (key.size : Int)) ∨ (¬ ((32 : Int) < (key.size : Int)) ∧ ((64 : Int) < (value.size : Int))) := by omega
    clear h0 hkey hl
    generalize kindI k 8 = kk at *
    unfold actV
    unfold actCells at *
    rcases hK with rfl | rfl | rfl | rfl
    all_goals
      rcases hl2 with z1 | ⟨z1, z2⟩
      all_goals
        go_enter Tryz.func12, Tryz.ntmps12
        go_wp2_with (go_at_call 30; refine (HK.out _).mono ?_; rintro e w' ⟨rfl, rfl⟩)
        refine hPUT.mono ?_
        rintro e w2 ⟨rfl, hB2⟩
        obtain ⟨b1, b2, f1, f2⟩ := HFN.out w2 hB2
        have F1 := Lib.hid f1
        have F2 := Lib.hid f2
        clear hPUT HFN HK f1 f2 hB2
        go_wp2
        go_ret2
        exact ⟨F, V, S, P, ao, c, rfl, F1.out, F2.out, HT.out, HE.out⟩
end
end
/-! TDoes2 -/
section
set_option linter.unusedSimpArgs false
set_option linter.unusedVariables false
open Go.RowKit Go.Maps Go.Shelf

attribute [local go_sem] Oper.semAt_some wide_room wide_fn wide_room_in wide_fn_in
section
variable {w0 w W : World} {s dk t root B B0 c : Nat} {F : Nat → Prop} {n N : Int} {V D : Int → ByteArray} {S S1 : TS} {l : List Ent} {P : List Nat} {ao : Option Addr}
set_option maxHeartbeats 4000000 in
set_option maxRecDepth 100000 in
theorem does_del (h : TWorld w0 w s dk t root F n V D N S l P B) (hrow : Row w F B0 (.slice ao l.length c) l) (hB0 : B0 ≤ w.heap.size) (k nn : Int) (key value : ByteArray) (hkw : (Lit.int .i64 k).wf = true) (hK : kindI k 8 = 4 ∨ kindI k 8 = 5)
    (hB : B ≤ 38000) (hN : N < 100000000) :
    Calls Tryz.prog 12 #[.pointer (some ⟨t, 0, none⟩), .slice ao l.length c, actV k key value nn] w (DoesPost w0 w s dk t root F n D N S P B B0 (takeL l key)) := by
  obtain ⟨S', P', hdel, hT', hE⟩ := h.tl.del (key := key) h.fm (by omega)
  have hnf : ¬ F w.heap.size := fun hf => by have := h.tin.lt _ hf; omega
  have hB1 : Below w.heap.size w (w.alloc (actCells k key value nn)) := (Below.refl _ w).alloc (Nat.le_refl _) _
  have hDEL := tdel_any (h.tin.made hB1) key _ hdel (by omega)
  have hlen := h.tl.len
  have HRF : Hid (∀ w2 F2 V2, TRun w0 (w.alloc (actCells k key value nn)) w2 s dk F F2 n V2 D (N + 8000) t root S' → w2.cell? ⟨w.heap.size, 1, none⟩ = some (.string key) ∧
      Calls Tryz.prog 32 #[.slice ao l.length c, .string key] w2 fun e w' => ∃ a2 c2, e = .returned (.slice a2 (takeL l key).length c2) ∧ w'.cell? ⟨w.heap.size, 1, none⟩ = some (.string key) ∧ TRun w0 w w' s dk F F2 n V2 D (N + 8000) t root S' ∧ Row w' F2 B0 (.slice a2 (takeL l key).length c2) (takeL l key) ∧
        Calls Tryz.prog 33 #[.slice ao l.length c, .string key] w' fun e w'' => e = .returned (.bool (hasL l key)) ∧ w' = w'') := fun w2 F2 V2 hr => by
    obtain ⟨b1, b2⟩ := hr.stays (heap_alloc_new' w _) hnf
    have hr2 := hr.drop hB1
    have hrow2 := hr2.tst.keeps _ _ _ hrow
    obtain ⟨_, _, e0, er, -⟩ := hrow2.parts
    simp at e0
    obtain ⟨rfl, rfl⟩ := e0
    refine ⟨by rw [cell_of b1]; rfl, (rtake_any w2 ao c l key er (by omega)).mono ?_⟩
    rintro e w' ⟨a2, c2, he, ho, hB2⟩
    have hB0' := hr2.size
    exact ⟨a2, c2, he, by rw [cell_of ((hB2.block _ (lt_of b1)).trans b1)]; rfl, hr2.made hB2, (Row.new hr2 ho).base hB0, rhas_any w' ao c l key (er.made hB2) (by omega)⟩
  have HK := Lib.hid (fun X => kind_any k 8 X hkw (by omega) (by omega))
  have HT2 := Lib.hid (hT'.mono (show B ≤ B + 98 by omega))
  have HE := Lib.hid hE
  clear h hrow hdel hT' hE hB1 hkw
  generalize takeL l key = l' at *
  generalize kindI k 8 = kk at *
  generalize hasL l key = hb at *
  unfold actV
  unfold actCells at *
  rcases hK with rfl | rfl
  all_goals
    go_enter Tryz.func12, Tryz.ntmps12
    go_wp2_with (go_at_call 30; refine (HK.out _).mono ?_; rintro e w' ⟨rfl, rfl⟩)
    refine hDEL.mono ?_
    rintro e w2 ⟨F2, V2, rfl, hr2⟩
    obtain ⟨b1, htk⟩ := HRF.out w2 F2 V2 hr2
    clear hDEL HRF hr2 HK
    go_wp2_with fail
    refine htk.mono ?_
    rintro e w3 ⟨a2, c2, rfl, b3, hr3, hrow3, hhas⟩
    have HR3 := Lib.hid hr3
    have HROW3 := Lib.hid hrow3
    clear htk hr3 hrow3
    cases hb
    all_goals
      go_wp2_with (go_at_call 33; refine hhas.mono ?_; rintro e w4 ⟨rfl, rfl⟩)
      go_ret2
      exact ⟨F2, V2, S', P', a2, c2, rfl, HR3.out, HROW3.out, HT2.out, HE.out⟩
theorem valL_has (ha : ascP l) {key : ByteArray} (hh : hasL l key = true) : ∃ hi : lIx l key < l.length, valL l key = some (l[lIx l key]'hi).2 := by
  have h1 := lHas_eq ha key
  rw [hh] at h1
  obtain ⟨hi, -⟩ := lHas_at h1
  refine ⟨hi, ?_⟩
  unfold valL
  rw [if_pos hh, ← (lIx_take ha key).2, List.head?_drop, List.getElem?_eq_getElem hi]
  rfl
set_option maxHeartbeats 4000000 in
set_option maxRecDepth 100000 in
theorem does_get (h : TWorld w0 w s dk t root F n V D N S l P B) (hrow : Row w F B0 (.slice ao l.length c) l) (k nn : Int) (key value : ByteArray) (hkw : (Lit.int .i64 k).wf = true) (hK : kindI k 8 = 6)
    (hB : B ≤ 38000) (hN : N < 100000000) :
    Calls Tryz.prog 12 #[.pointer (some ⟨t, 0, none⟩), .slice ao l.length c, actV k key value nn] w (DoesPost w0 w s dk t root F n D N S P B B0 l) := by
  have hget := h.tl.get (key := key) h.fm (by omega)
  have hnf : ¬ F w.heap.size := fun hf => by have := h.tin.lt _ hf; omega
  have hB1 : Below w.heap.size w (w.alloc (actCells k key value nn)) := (Below.refl _ w).alloc (Nat.le_refl _) _
  have hGET := tget_any (h.tin.made hB1) key _ hget (by omega)
  have hlen := h.tl.len
  have hasc := h.tl.asc
  have HRF : Hid (∀ w2 F2 V2, TRun w0 (w.alloc (actCells k key value nn)) w2 s dk F F2 n V2 D (N + 300) t root S → ∀ W2, Below w2.heap.size w2 W2 → W2.cell? ⟨w.heap.size, 1, none⟩ = some (.string key) ∧ (TRun w0 w W2 s dk F F2 n V2 D (N + 8000) t root S ∧ Row W2 F2 B0 (.slice ao l.length c) l) ∧
        Calls Tryz.prog 33 #[.slice ao l.length c, .string key] W2 (fun e w'' => e = .returned (.bool (hasL l key)) ∧ W2 = w'') ∧
        Calls Tryz.prog 34 #[.slice ao l.length c, .string key] W2 (fun e w'' => e = .returned (.int .i64 (lIx l key : Nat)) ∧ W2 = w'') ∧
        (∀ (hi : lIx l key < l.length), ∃ g, ao = some ⟨g, 0, none⟩ ∧ l.length ≤ c ∧ W2.cell? ⟨g, lIx l key * 2 + 1, none⟩ = some (.string (l[lIx l key]'hi).2))) := fun w2 F2 V2 hr W2 hB2 => by
    obtain ⟨b1, b2⟩ := hr.stays (heap_alloc_new' w _) hnf
    have hr2 := ((hr.drop hB1).mono (show N + 300 ≤ N + 8000 by omega)).made hB2
    have hrow2 := hr2.tst.keeps _ _ _ hrow
    obtain ⟨_, _, e0, er, -, -, hlc⟩ := hrow2.parts
    simp at e0
    obtain ⟨rfl, rfl⟩ := e0
    refine ⟨?_, ⟨hr2, hrow2⟩, rhas_any _ ao c l key er (by omega), rat_any _ ao c l key er hasc (by omega), fun hi => ?_⟩
    · rw [cell_of ((hB2.block _ (lt_of b1)).trans b1)]; rfl
    · obtain ⟨g, off, rfl, d0, d1⟩ := er.at hi
      obtain ⟨g', cur, e2, -⟩ := hrow2.own.block
      simp at e2
      obtain ⟨rfl, rfl⟩ := e2
      rw [Nat.zero_add] at d1
      exact ⟨g, rfl, hlc, d1⟩
  have HK := Lib.hid (fun X => kind_any k 8 X hkw (by omega) (by omega))
  have HT2 := Lib.hid (h.tl.mono (show B ≤ B + 98 by omega))
  have HE := Lib.hid h.tl.refl
  rw [hK] at HK
  cases hb : hasL l key with
  | false =>
    have hv : valL l key = none := by unfold valL; rw [hb]; rfl
    rw [hv] at hGET
    rw [hb] at HRF
    clear h hrow hget hB1 hkw hv hK
    unfold valE at hGET
    unfold actV
    unfold actCells at *
    go_enter Tryz.func12, Tryz.ntmps12
    go_wp2_with (go_at_call 30; refine (HK.out _).mono ?_; rintro e w' ⟨rfl, rfl⟩)
    refine hGET.mono ?_
    rintro e w2 ⟨F2, V2, rfl, hr2⟩
    obtain ⟨b1, hfin, hh0, -, -⟩ := HRF.out w2 F2 V2 hr2 w2 (Below.refl _ _)
    have HFIN := Lib.hid hfin
    clear hGET HRF hr2 HK hfin
    go_wp2_with (go_at_call 33; refine hh0.mono ?_; rintro e w4 ⟨rfl, rfl⟩)
    go_ret2
    exact ⟨F2, V2, S, P, ao, c, rfl, HFIN.out.1, HFIN.out.2, HT2.out, HE.out⟩
  | true =>
    obtain ⟨hi, hv⟩ := valL_has hasc hb
    rw [hv] at hGET
    rw [hb] at HRF
    have hil : ((lIx l key : Nat) : Int) < (l.length : Int) := by omega
    have hi0 : (0 : Int) ≤ ((lIx l key : Nat) : Int) := by omega
    have HRF2 : Hid (∀ w2 F2 V2, TRun w0 (w.alloc (actCells k key value nn)) w2 s dk F F2 n V2 D (N + 300) t root S → ∀ W2, Below w2.heap.size w2 W2 → W2.cell? ⟨w.heap.size, 1, none⟩ = some (.string key) ∧ (TRun w0 w W2 s dk F F2 n V2 D (N + 8000) t root S ∧ Row W2 F2 B0 (.slice ao l.length c) l) ∧
        Calls Tryz.prog 33 #[.slice ao l.length c, .string key] W2 (fun e w'' => e = .returned (.bool true) ∧ W2 = w'') ∧
        Calls Tryz.prog 34 #[.slice ao l.length c, .string key] W2 (fun e w'' => e = .returned (.int .i64 (lIx l key : Nat)) ∧ W2 = w'') ∧
        ∃ g, ao = some ⟨g, 0, none⟩ ∧ l.length ≤ c ∧ W2.cell? ⟨g, lIx l key * 2 + 1, none⟩ = some (.string (l[lIx l key]'hi).2)) := fun w2 F2 V2 hr W2 hB2 => by
      obtain ⟨a1, a2, a3, a4, a5⟩ := HRF.out w2 F2 V2 hr W2 hB2
      exact ⟨a1, a2, a3, a4, a5 hi⟩
    clear h hrow hget hB1 hkw hv hK HRF
    generalize (l[lIx l key]'hi).2 = y at *
    generalize lIx l key = ix at *
    unfold valE at hGET
    unfold actV
    unfold actCells at *
    go_enter Tryz.func12, Tryz.ntmps12
    go_wp2_with (go_at_call 30; refine (HK.out _).mono ?_; rintro e w' ⟨rfl, rfl⟩)
    refine hGET.mono ?_
    rintro e w2 ⟨F2, V2, rfl, hr2⟩
    have H2 := Lib.hid (HRF2.out w2 F2 V2 hr2)
    obtain ⟨b1, hfin, hh0, hat, g, rfl, hlc, hy⟩ := H2.out w2 (Below.refl _ _)
    have z1 : (l.length : Int) ≤ (c : Int) := by omega
    clear hGET HRF2 hr2 HK hfin
    go_wp2_with (go_at_call 33; refine hh0.mono ?_; rintro e w4 ⟨rfl, rfl⟩)
    have k1 : ∀ j, (w2.drewN j).cell? ⟨w.heap.size, 1, none⟩ = some (.string key) := fun j => (H2.out _ (drewN_below w2 j)).1
    have k2 : ∀ j, (w2.drewN j).cell? ⟨g, ix * 2 + 1, none⟩ = some (.string y) := fun j => by
      obtain ⟨g2, e2, -, h2⟩ := (H2.out _ (drewN_below w2 j)).2.2.2.2
      simp at e2
      subst e2
      exact h2
    have HAT : Hid (∀ j, Calls Tryz.prog 34 #[.slice (some ⟨g, 0, none⟩) l.length c, .string key] (w2.drewN j) fun e w' => e = .returned (.int .i64 (ix : Nat)) ∧ ∃ m, w' = w2.drewN m) := fun j => ((H2.out _ (drewN_below w2 j)).2.2.2.1).mono fun e w' ⟨he, hw⟩ => ⟨he, j, hw.symm⟩
    have HFN : Hid (∀ j, TRun w0 w (w2.drewN j) s dk F F2 n V2 D (N + 8000) t root S ∧ Row (w2.drewN j) F2 B0 (.slice (some ⟨g, 0, none⟩) l.length c) l) := fun j => (H2.out _ (drewN_below w2 j)).2.1
    clear H2 hat hh0
    go_quiet (first | (go_at_call 34; exact HAT.out _))
    go_wp2
    go_ret2
    exact ⟨F2, V2, S, P, _, c, rfl, (HFN.out _).1, (HFN.out _).2, HT2.out, HE.out⟩
set_option maxRecDepth 100000 in
set_option maxHeartbeats 4000000 in
theorem tlist_none (from_ : ByteArray) (w : World) (nn : Int) (hnn : nn < 1) : Calls Tryz.prog 13 #[.pointer (some ⟨t, 0, none⟩), .string from_, .int .i64 nn] w fun e w' => e = .returned (.tuple #[.slice none 0 0, .int .i64 0]) ∧ Below w.heap.size w w' := by
  obtain ⟨W3, hW3⟩ : ∃ W3, ((w.alloc (.cells #[.int .i64 nn] 3)).alloc (.cells #[.slice none 0 0] 31)).alloc (.cells #[.int .i64 0] 26) = W3 := ⟨_, rfl⟩
  have hs3 : W3.heap.size = w.heap.size + 3 := by rw [← hW3]; simp
  have hB3 : Below w.heap.size w W3 := by rw [← hW3]; exact (((Below.refl w.heap.size w).alloc (Nat.le_refl _) _).alloc (by simp) _).alloc (by simp; omega) _
  have o1 : W3.heap[w.heap.size]? = some (.cells #[.int .i64 nn] 3 (0, 0)) := by rw [← hW3]; exact (Below.heap_alloc _ _ _ (by simp; omega)).trans ((Below.heap_alloc _ _ _ (by simp)).trans (heap_alloc_new' w _))
  have o2 : W3.heap[w.heap.size + 1]? = some (.cells #[.slice none 0 0] 31 (0, 0)) := by
    rw [← hW3]
    have := heap_alloc_new' (w.alloc (.cells #[.int .i64 nn] 3)) (.cells #[.slice none 0 0] 31 (0, 0))
    rw [World.size_alloc] at this
    exact (Below.heap_alloc _ _ _ (by simp)).trans this
  have o3 : W3.heap[w.heap.size + 2]? = some (.cells #[.int .i64 0] 26 (0, 0)) := by
    rw [← hW3]
    have := heap_alloc_new' ((w.alloc (.cells #[.int .i64 nn] 3)).alloc (.cells #[.slice none 0 0] 31)) (.cells #[.int .i64 0] 26 (0, 0))
    rw [World.size_alloc, World.size_alloc] at this
    exact this
  have ens : ∀ args w, (callFunc 27 args).run Tryz.prog w = .ok (.enter 27 args) w := enters_of Tryz.func27 (by kernel_rfl) rfl
  have el : ∀ args w, (callFunc 36 args).run Tryz.prog w = .ok (.enter 36 args) w := enters_of Tryz.func36 (by kernel_rfl) rfl
  have c0 : W3.cell? ⟨w.heap.size, 0, none⟩ = some (.int .i64 nn) := by rw [cell_of o1]; rfl
  have c1 : W3.cell? ⟨w.heap.size + 1, 0, none⟩ = some (.slice none 0 0) := by rw [cell_of o2]; rfl
  have f1 : W3.frozen? ⟨w.heap.size + 1, 0, none⟩ = false := frozen_of o2 0
  obtain ⟨W1, hW1⟩ : ∃ W1, W3.setCell ⟨w.heap.size + 1, 0, none⟩ (.slice none 0 0) = W1 := ⟨_, rfl⟩
  have hB1 : Below w.heap.size w W1 := by rw [← hW1]; exact hB3.setCell (by simp) _
  have p2 : W1.heap[w.heap.size + 1]? = some (.cells #[.slice none 0 0] 31 (0, 0)) := by rw [← hW1, heap_setCell_same o2 0 _]; rfl
  have p3 : W1.heap[w.heap.size + 2]? = some (.cells #[.int .i64 0] 26 (0, 0)) := by
    rw [← hW1]
    exact (setCell_other (by omega)).trans o3
  have c3 : W1.cell? ⟨w.heap.size + 1 + 1, 0, none⟩ = some (.int .i64 0) := by rw [show w.heap.size + 1 + 1 = w.heap.size + 2 by omega, cell_of p3]; rfl
  have f3 : W1.frozen? ⟨w.heap.size + 1 + 1, 0, none⟩ = false := frozen_of (show W1.heap[w.heap.size + 1 + 1]? = _ from p3) 0
  obtain ⟨W2, hW2⟩ : ∃ W2, W1.setCell ⟨w.heap.size + 1 + 1, 0, none⟩ (.int .i64 0) = W2 := ⟨_, rfl⟩
  have hB2 : Hid (Below w.heap.size w W2) := by rw [← hW2]; exact hB1.setCell (by simp; omega) _
  have q2 : W2.cell? ⟨w.heap.size + 1, 0, none⟩ = some (.slice none 0 0) := by
    rw [← hW2, cell_of ((setCell_other (by omega)).trans p2)]; rfl
  have q3 : W2.cell? ⟨w.heap.size + 1 + 1, 0, none⟩ = some (.int .i64 0) := by
    rw [← hW2, cell_of (heap_setCell_same (show W1.heap[w.heap.size + 1 + 1]? = _ from p3) 0 _)]; rfl
  clear o1 o2 o3 p2 p3 hB3 hB1
  refine (callsIn_wide (n := 9)).1 ?_
  refine callsIn_of_wp_marks Tryz.func13 rfl trivial ?_ rfl
  simp only [Tryz.ntmps13, List.size_toArray, List.length_cons, List.length_nil, Nat.reduceAdd, Nat.reduceSub, Array.replicate_succ, Array.replicate_zero, List.push_toArray, List.append_toArray, List.nil_append, List.cons_append]
  gi_wp2
  refine ⟨by simp, .inr ⟨by simp [Fence.wide], _, _, 27, #[.pointer (some ⟨w.heap.size + 1 + 1, 0, none⟩)], rfl, by simp [invoke, go_sem, ens], fun _ _ => trivial, ?_⟩⟩
  refine (settle_idleIn ⟨w.heap.size + 1 + 1, 0, none⟩ _ W2).mono ?_
  rintro e u' w5 ⟨rfl, rfl, rfl⟩
  refine ⟨by simp [settle], .inr ⟨by simp [Fence.wide], _, _, 36, #[.pointer (some ⟨w.heap.size + 1 + 1, 0, none⟩), .pointer (some ⟨w.heap.size + 1, 0, none⟩)], rfl, by simp [invoke, go_sem, el], fun _ _ => trivial, ?_⟩⟩
  refine (list1_idleIn (w.heap.size + 1 + 1) (w.heap.size + 1) _ _ _ q3).mono ?_
  rintro e u' w6 ⟨rfl, rfl, rfl⟩
  simp [LeavesInM, LeavesIn, settle, results, Tryz.results13, go_sem, q2, q3]
  exact hB2.out
theorem tlist_all (h : TWorld w0 w s dk t root F n V D N S l P B) (key : ByteArray) (nn : Int) (hB : B ≤ 38000) (hN : N < 900000000) :
    Calls Tryz.prog 13 #[.pointer (some ⟨t, 0, none⟩), .string key, .int .i64 nn] w fun e w' => ∃ F' aX cX, e = .returned (.tuple #[.slice aX ((fromL l key).take nn.toNat).length cX, .int .i64 0]) ∧ TRun w0 w w' s dk F F' n V D (N + 7000) t root S ∧ Row w' F' w.heap.size (.slice aX ((fromL l key).take nn.toNat).length cX) ((fromL l key).take nn.toNat) := by
  by_cases hnn : nn < 1
  · have hT : (fromL l key).take nn.toNat = [] := by rw [show nn.toNat = 0 by omega, List.take_zero]
    rw [hT]
    refine (tlist_none (t := t) key w nn hnn).mono ?_
    rintro e w' ⟨he, hB2⟩
    exact ⟨F, none, 0, he, (h.tin.run.made hB2).mono (by omega), EOwn.nil _ _, fun b hb => by simp [Value.ownBlock] at hb⟩
  · obtain ⟨pgs, hw, hp, -⟩ := h.tl.walk (from_ := key) h.fm (by omega)
    have hlen := h.tl.len
    have hfew := h.tl.few (by omega)
    have hfl : (fromL l key).length ≤ l.length := List.length_filter_le _ _
    refine (tlist_any h.tin key _ pgs hw nn (by omega) (by omega) (by omega)).mono ?_
    rintro e w' ⟨F', v, he, hr, hrow⟩
    obtain ⟨aX, cX, rfl, -⟩ := hrow.parts
    exact ⟨F', aX, cX, he, hr.mono (by omega), hrow⟩
set_option maxHeartbeats 4000000 in
set_option maxRecDepth 100000 in
theorem does_list (h : TWorld w0 w s dk t root F n V D N S l P B) (hrow : Row w F B0 (.slice ao l.length c) l) (k nn : Int) (key value : ByteArray) (hkw : (Lit.int .i64 k).wf = true) (hK : kindI k 8 = 7)
    (hB : B ≤ 38000) (hN : N < 100000000) :
    Calls Tryz.prog 12 #[.pointer (some ⟨t, 0, none⟩), .slice ao l.length c, actV k key value nn] w (DoesPost w0 w s dk t root F n D N S P B B0 l) := by
  have hnf : ¬ F w.heap.size := fun hf => by have := h.tin.lt _ hf; omega
  have hB1 : Below w.heap.size w (w.alloc (actCells k key value nn)) := (Below.refl _ w).alloc (Nat.le_refl _) _
  have h1 : TWorld w0 (w.alloc (actCells k key value nn)) s dk t root F n V D N S l P B := ⟨h.tin.made hB1, h.tl⟩
  have hLIST := tlist_all h1 key nn hB (by omega)
  have hlen := h.tl.len
  have hfl : (fromL l key).length ≤ l.length := List.length_filter_le _ _
  have HRF : Hid (∀ w2 F2 aX cX, TRun w0 (w.alloc (actCells k key value nn)) w2 s dk F F2 n V D (N + 7000) t root S → Row w2 F2 (w.alloc (actCells k key value nn)).heap.size (.slice aX ((fromL l key).take nn.toNat).length cX) ((fromL l key).take nn.toNat) → w2.cell? ⟨w.heap.size, 1, none⟩ = some (.string key) ∧ w2.cell? ⟨w.heap.size, 3, none⟩ = some (.int .i64 nn) ∧
      Calls Tryz.prog 35 #[.slice ao l.length c, .string key, .int .i64 nn] w2 fun e w3 => ∃ a2 c2, e = .returned (.slice a2 ((fromL l key).take nn.toNat).length c2) ∧
        Calls Tryz.prog 14 #[.slice aX ((fromL l key).take nn.toNat).length cX, .slice a2 ((fromL l key).take nn.toNat).length c2] w3 fun e w4 => e = .returned (.bool true) ∧ TRun w0 w w4 s dk F F2 n V D (N + 8000) t root S ∧ Row w4 F2 B0 (.slice ao l.length c) l) := fun w2 F2 aX cX hr hrowX => by
    obtain ⟨b1, b2⟩ := hr.stays (heap_alloc_new' w _) hnf
    have hr2 := (hr.drop hB1).mono (show N + 7000 ≤ N + 8000 by omega)
    have hrow2 := hr2.tst.keeps _ _ _ hrow
    obtain ⟨_, _, e0, er, -⟩ := hrow2.parts
    simp at e0
    obtain ⟨rfl, rfl⟩ := e0
    obtain ⟨T, hT⟩ : ∃ T, (fromL l key).take nn.toNat = T := ⟨_, rfl⟩
    have hTl : T.length ≤ l.length := by rw [← hT]; simp; omega
    have hfr := rfrom_any w2 ao c l key nn er (by omega)
    rw [hT] at hrowX hfr ⊢
    obtain ⟨_, _, e1, erX, -⟩ := hrowX.parts
    simp at e1
    obtain ⟨rfl, rfl⟩ := e1
    refine ⟨by rw [cell_of b1]; rfl, by rw [cell_of b1]; rfl, hfr.mono ?_⟩
    rintro e w3 ⟨a2, c2, he, ho, hB3⟩
    obtain ⟨_, _, e2, er2, -⟩ := ho.parts
    simp at e2
    obtain ⟨rfl, rfl⟩ := e2
    refine ⟨a2, c2, he, (rsame_any w3 aX a2 cX c2 T T (erX.made hB3) er2 (by omega) (by omega)).mono ?_⟩
    rintro e w4 ⟨he4, hB4⟩
    have hB34 := hB3.trans (hB4.mono hB3.size)
    exact ⟨by simpa using he4, hr2.made hB34, hrow2.made hB34⟩
  have HK := Lib.hid (fun X => kind_any k 8 X hkw (by omega) (by omega))
  have HT2 := Lib.hid (h.tl.mono (show B ≤ B + 98 by omega))
  have HE := Lib.hid h.tl.refl
  rw [hK] at HK
  clear h h1 hrow hB1 hkw hK hfl
  generalize (fromL l key).take nn.toNat = T at *
  unfold actV
  unfold actCells at *
  go_enter Tryz.func12, Tryz.ntmps12
  go_wp2_with (go_at_call 30; refine (HK.out _).mono ?_; rintro e w' ⟨rfl, rfl⟩)
  refine hLIST.mono ?_
  rintro e w2 ⟨F2, aX, cX, rfl, hr2, hrowX⟩
  obtain ⟨b1, b2, hfr⟩ := HRF.out w2 F2 aX cX hr2 hrowX
  clear hLIST HRF hr2 HK hrowX
  go_wp2_with fail
  refine hfr.mono ?_
  rintro e w3 ⟨a2, c2, rfl, hsm⟩
  clear hfr
  go_wp2_with fail
  refine hsm.mono ?_
  rintro e w4 ⟨rfl, hr4, hrow4⟩
  have HR4 := Lib.hid hr4
  have HROW4 := Lib.hid hrow4
  clear hsm hr4 hrow4
  go_wp2
  go_ret2
  exact ⟨F2, V, S, P, ao, c, rfl, HR4.out, HROW4.out, HT2.out, HE.out⟩
/-- any act -/
theorem does_any (h : TWorld w0 w s dk t root F n V D N S l P B) (hrow : Row w F B0 (.slice ao l.length c) l) (hB0 : B0 ≤ w.heap.size) (k nn : Int) (key value : ByteArray) (hkw : (Lit.int .i64 k).wf = true) (hB : B ≤ 38000) (hc : cntM (spMany n) S + 6 ≤ spMany n) (hN : N < 100000000) :
    Calls Tryz.prog 12 #[.pointer (some ⟨t, 0, none⟩), .slice ao l.length c, actV k key value nn] w (DoesPost w0 w s dk t root F n D N S P B B0 (actL k key value l)) := by
  have hbd := kindI_bd (k := k) (show (0 : Int) < 8 by omega)
  unfold actL
  by_cases h1 : kindI k 8 < 4
  · rw [if_pos h1]
    by_cases h2 : key.size = 0 ∨ 32 < key.size ∨ 64 < value.size
    · rw [if_pos h2]
      exact does_put_no h hrow k nn key value hkw (by omega) h2 hN
    · rw [if_neg h2]
      exact does_put h hrow hB0 k nn key value hkw (by omega) h2 hB hc hN
  · rw [if_neg h1]
    by_cases h2 : kindI k 8 < 6
    · rw [if_pos h2]
      exact does_del h hrow hB0 k nn key value hkw (by omega) hB hN
    · rw [if_neg h2]
      by_cases h3 : kindI k 8 = 6
      · exact does_get h hrow k nn key value hkw h3 hB hN
      · exact does_list h hrow k nn key value hkw (by omega) hB hN
end
end
end Go.Proofs.YtmgcaohpbaiiaaaGreatDoor
