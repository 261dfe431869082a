/- Looking at a tree: the reference's Look. -/
import Derived.Test.YtmgcaohpbaiiaaaGreatDoorVc
import Derived.Test.YtmgcaohpbaiiaaaGreatDoorTPagesG
set_option linter.unusedSimpArgs false
set_option linter.unusedVariables false
namespace Go.Proofs.YtmgcaohpbaiiaaaGreatDoor
open Go.RowKit Go.Maps Go.Shelf
/-- what lies on pages, as a row -/
def PgRow (S : TS) (w : World) (g : Nat) (P : List Nat) : Prop := ∀ k ∈ P, k < 2048 ∧ ∀ kind l, loadM S k = some (kind, l) → w.cell? ⟨g, k, none⟩ = some (.string (packB kind l))
abbrev foundO (u v : Value) (d : Int) : Obj := .cells #[u, v, .int .i64 d, .bool true] 50 (0, 0)
/-- a key that may stand below lo .. hi -/
structure InB (lo hi k : ByteArray) : Prop where
  lo : ltB k lo = false
  hi : hi = ⟨#[]⟩ ∨ ltB k hi = true
  ne : k.size ≠ 0
theorem nonempty_list {k : ByteArray} (h : k.size ≠ 0) : (k.toList == []) = false := by
  cases hk : k.toList with
  | nil =>
    exfalso
    by_cases e : k = ⟨#[]⟩
    · subst e; exact h rfl
    · have h2 := bytes_neq e
      rw [hk] at h2
      simp at h2
  | cons a r => rfl
theorem look_start (w1 : World) (at_ : Nat) : ((w1.alloc (.cells #[.int .i64 at_] 3)).alloc (foundO (.slice none 0 0) (.slice (some ⟨w1.heap.size, 0, none⟩) 1 1) 1)).heap[w1.heap.size + 1]? = some (foundO (.slice none 0 0) (.slice (some ⟨w1.heap.size, 0, none⟩) 1 1) 1) ∧
    ((w1.alloc (.cells #[.int .i64 at_] 3)).alloc (foundO (.slice none 0 0) (.slice (some ⟨w1.heap.size, 0, none⟩) 1 1) 1)).ownsRow w1.heap.size 3 1 (.slice (some ⟨w1.heap.size, 0, none⟩) 1 1) 1 [encN at_] ∧
    Below w1.heap.size w1 ((w1.alloc (.cells #[.int .i64 at_] 3)).alloc (foundO (.slice none 0 0) (.slice (some ⟨w1.heap.size, 0, none⟩) 1 1) 1)) ∧ ((w1.alloc (.cells #[.int .i64 at_] 3)).alloc (foundO (.slice none 0 0) (.slice (some ⟨w1.heap.size, 0, none⟩) 1 1) 1)).heap.size = w1.heap.size + 2 := by
  have h1 := heap_alloc_new' (w1.alloc (.cells #[.int .i64 at_] 3)) (foundO (.slice none 0 0) (.slice (some ⟨w1.heap.size, 0, none⟩) 1 1) 1)
  rw [World.size_alloc] at h1
  have h2 : ((w1.alloc (.cells #[.int .i64 at_] 3)).alloc (foundO (.slice none 0 0) (.slice (some ⟨w1.heap.size, 0, none⟩) 1 1) 1)).heap[w1.heap.size]? = some (.cells #[.int .i64 at_] 3 (0, 0)) := (Below.heap_alloc _ _ _ (by simp)).trans (heap_alloc_new' w1 _)
  exact ⟨h1, ⟨rfl, .inr ⟨w1.heap.size, 1, _, rfl, Nat.le_refl _, h2, Nat.le_refl _, by unfold maxLen; omega, rfl, rfl⟩⟩, ((Below.refl _ w1).alloc (Nat.le_refl _) _).alloc (by simp) _, by simp⟩
set_option maxHeartbeats 4000000 in
set_option maxRecDepth 100000 in
theorem look_leaf (w : World) (g : Nat) (at_ : Nat) (lo hi : ByteArray) (most : Nat) (l : List Ent) (hat : at_ < 2048) (hc : w.cell? ⟨g, at_, none⟩ = some (.string (packB 1 l))) (hgl : g < w.heap.size) (hf : Fine 1 l) (hb : ∀ q ∈ l, InB lo hi q.1) (hm : most ≠ 0) (hm2 : most ≤ 1000) :
    Calls Tryz.prog 52 #[.slice (some ⟨g, 0, none⟩) 2048 2048, .int .i64 at_, .string lo, .string hi, .int .i64 most] w fun e w' => ∃ a1 c1 a2 c2, e = .returned (.agg #[.slice a1 l.length c1, .slice a2 1 c2, .int .i64 1, .bool true]) ∧ EOwn w' w.heap.size (.slice a1 l.length c1) l ∧ w'.ownsRow w.heap.size 3 1 (.slice a2 1 c2) 1 [encN at_] ∧ Below w.heap.size w w' := by
  have HU : Hid (∀ W, Calls Tryz.prog 56 #[.string (packB 1 l)] W fun e w' => ∃ v, e = .returned (.tuple #[.int .i64 1, v, .int .i64 0]) ∧ EOwn w' W.heap.size v l ∧ Below W.heap.size W w') := fun W => runpack_any W 1 l hf
  have HC : Hid (∀ W, Below w.heap.size w W → W.cell? ⟨g, at_, none⟩ = some (.string (packB 1 l))) := fun W hB => (hB.cell (p := ⟨g, at_, none⟩) hgl).trans hc
  have hlen := hf.len
  clear hf hc
  generalize packB 1 l = s at *
  have z1 : ¬ ((2048 : Int) ≤ (at_ : Int)) := by omega
  have z2 : ¬ ((most : Int) = 0) := by omega
  have z4 : (at_ : Int) < 2048 := by omega
  have z6 : ((most : Int) == 0) = false := by simpa using hm
  go_enter Tryz.func52, Tryz.ntmps52
  have hB0 : Below w.heap.size w (w.alloc (.cells #[.slice none 0 0, .slice none 0 0, .int .i64 0, .bool false] 50)) := (Below.refl _ w).alloc (Nat.le_refl _) _
  have c0 := HC.out _ hB0
  have hu := HU.out (w.alloc (.cells #[.slice none 0 0, .slice none 0 0, .int .i64 0, .bool false] 50))
  have hr0 := heap_alloc_new' w (.cells #[.slice none 0 0, .slice none 0 0, .int .i64 0, .bool false] 50 (0, 0))
  have HR0 : Hid ((w.alloc (.cells #[.slice none 0 0, .slice none 0 0, .int .i64 0, .bool false] 50)).heap[w.heap.size]? = some (.cells #[.slice none 0 0, .slice none 0 0, .int .i64 0, .bool false] 50 (0, 0))) := hr0
  have HB0 := Lib.hid hB0
  clear HU HC hB0 hr0
  go_wp2_with fail
  refine hu.mono ?_
  rintro e w1 ⟨v, rfl, ho, hB1⟩
  obtain ⟨ao, c, rfl, -, -⟩ := ho.parts
  have HO := Lib.hid ho
  have HB1 := Lib.hid hB1
  clear hu c0 ho hB1
  go_upto_region 8 with fail
  obtain ⟨x1, x2, x3, x4⟩ := look_start w1 at_
  generalize (w1.alloc (.cells #[.int .i64 at_] 3)).alloc (foundO (.slice none 0 0) (.slice (some ⟨w1.heap.size, 0, none⟩) 1 1) 1) = W2 at *
  have hB1 := HB0.out.trans (HB1.out.mono HB0.out.size)
  have hB2 := hB1.trans (x3.mono hB1.size)
  have hres : W2.heap[w.heap.size]? = some (.cells #[.slice none 0 0, .slice none 0 0, .int .i64 0, .bool false] 50 (0, 0)) := by
    have r1 := (HB1.out.block _ (lt_of HR0.out)).trans HR0.out
    exact (x3.block _ (lt_of r1)).trans r1
  have HBW := Lib.hid hB2
  have HX2 := Lib.hid x2
  have HX3 := Lib.hid x3
  have HO2 := Lib.hid (HO.out.made x3)
  have HKEY : Hid (∀ k (hk : k < l.length), ∃ gl, ao = some ⟨gl, 0, none⟩ ∧ l.length ≤ c ∧ W2.cell? ⟨gl, k * 2, none⟩ = some (.string (l[k]'hk).1) ∧ InB lo hi (l[k]'hk).1) := fun k hk => by
    obtain ⟨ao', c', e, er, -⟩ := HO2.out.parts
    simp at e
    obtain ⟨rfl, rfl⟩ := e
    obtain ⟨gl, off, rfl, c0, -⟩ := er.at hk
    obtain ⟨g', cur, e2, -, -, -, hlc, -⟩ := HO2.out.block
    simp at e2
    obtain ⟨rfl, rfl⟩ := e2
    rw [Nat.zero_add] at c0
    exact ⟨gl, rfl, by omega, c0, hb _ (List.getElem_mem hk)⟩
  have HRES : Hid (W2.heap[w.heap.size]? = some (.cells #[.slice none 0 0, .slice none 0 0, .int .i64 0, .bool false] 50 (0, 0))) := hres
  have HBOX : Hid (W2.heap[w1.heap.size + 1]? = some (foundO (.slice none 0 0) (.slice (some ⟨w1.heap.size, 0, none⟩) 1 1) 1)) := x1
  have HEND : Hid (∀ W4, Upd (fun b => b = w.heap.size ∨ b = w1.heap.size + 1) W2 W4 → EOwn W4 w.heap.size (.slice ao l.length c) l ∧ W4.ownsRow w.heap.size 3 1 (.slice (some ⟨w1.heap.size, 0, none⟩) 1 1) 1 [encN at_] ∧ Below w.heap.size w W4) := fun W4 hu => by
    have hs0 : w.heap.size + 1 ≤ w1.heap.size := by have := HB1.out.size; simpa using this
    refine ⟨?_, ?_, hB2.trans (hu.toBelow hB2.size fun x hx hb => by omega)⟩
    · refine EOwn.keep (HO2.out.base (by simp)) fun b hb => ?_
      have h1 := HO.out.lt b hb
      have h2 := HO2.out.lt b hb
      simp only [World.size_alloc] at h1
      exact hu.block b h2.2 (by omega)
    · refine ownsRow_base' (ownsRow_keep HX2.out fun b hb => ?_) (by omega)
      have h1 := HX2.out.lt b hb
      have : b = w1.heap.size := by simpa [Value.ownBlock] using hb.symm
      exact hu.block b h1.2 (by omega)
  have HNE : Hid (w.heap.size ≠ w1.heap.size + 1) := by
    show _ ≠ _
    have := hB1.size
    omega
  clear x1 x2 x3 hB1 hB2 hres HO HB1 HB0 HR0 hb
  obtain ⟨m, HM⟩ : ∃ m, Hid (l.length = m) := ⟨_, Lib.hid rfl⟩
  rw [HM.out] at hlen ⊢
  go_wp2
  go_loopw [54] (fun v wr => ∃ k : Nat, v = .int .i64 k ∧ k ≤ m ∧ wr = W2) (fun v _ => m - (intOf v).toNat)
  case atStart => exact ⟨0, rfl, Nat.zero_le _, rfl⟩
  case round =>
    obtain ⟨k, rfl, hk, rfl⟩ := hrel
    by_cases hlt : k < m
    · have hlt' : k < l.length := by rw [HM.out]; exact hlt
      obtain ⟨gl, rfl, hmc, ck, hin⟩ := HKEY.out k hlt'
      rw [HM.out] at hmc
      have k1 : Op.bytesLess (l[k]'hlt').1.toList lo.toList = false := hin.lo
      have k2 := nonempty_list hin.ne
      have hz3 : (m : Int) ≤ (c : Int) := by omega
      by_cases hh : hi = ⟨#[]⟩
      · subst hh
        clear HKEY HRES HBOX HX2 HX3 HO2
        generalize l[k].1 = x at *
        go_wp2
        go_roundw
        case rel => exact ⟨k + 1, by go_num, by omega, trivial⟩
        case measure => simp [intOf]; omega
      · have k3 : Op.bytesLess (l[k]'hlt').1.toList hi.toList = true := by
          rcases hin.hi with e | e
          · exact absurd e hh
          · exact e
        have k4 : (hi.toList == []) = false := by
          have := bytes_neq hh
          simpa using this
        clear HKEY HRES HBOX HX2 HX3 HO2
        generalize l[k].1 = x at *
        go_wp2
        go_roundw
        case rel => exact ⟨k + 1, by go_num, by omega, trivial⟩
        case measure => simp [intOf]; omega
    · obtain rfl : m = k := by omega
      have d0 : wr.cell? ⟨w1.heap.size + 1, 0, none⟩ = some (.slice none 0 0) := by rw [cell_of HBOX.out]; rfl
      have d1 : wr.cell? ⟨w1.heap.size + 1, 1, none⟩ = some (.slice (some ⟨w1.heap.size, 0, none⟩) 1 1) := by rw [cell_of HBOX.out]; rfl
      have d2 : wr.cell? ⟨w1.heap.size + 1, 2, none⟩ = some (.int .i64 1) := by rw [cell_of HBOX.out]; rfl
      have d3 : wr.cell? ⟨w1.heap.size + 1, 3, none⟩ = some (.bool true) := by rw [cell_of HBOX.out]; rfl
      have f0 : wr.frozen? ⟨w1.heap.size + 1, 0, none⟩ = false := frozen_of HBOX.out 0
      go_upto_region 15 with fail
      have b3 := heap_setCell_same HBOX.out 0 (.slice ao m c)
      have hne : w.heap.size ≠ w1.heap.size + 1 := HNE.out
      have hres3 := (setCell_other (w := wr) (b := w1.heap.size + 1) (i := 0) (u := .slice ao m c) (g := w.heap.size) hne).trans HRES.out
      have HFIN : Hid (∀ W4, Upd (fun b => b = w.heap.size ∨ b = w1.heap.size + 1) wr W4 → EOwn W4 w.heap.size (.slice ao l.length c) l ∧ W4.ownsRow w.heap.size 3 1 (.slice (some ⟨w1.heap.size, 0, none⟩) 1 1) 1 [encN at_] ∧ Below w.heap.size w W4) := fun W4 hu => HEND.out W4 hu
      have hu3 : Upd (fun b => b = w.heap.size ∨ b = w1.heap.size + 1) wr (wr.setCell ⟨w1.heap.size + 1, 0, none⟩ (.slice ao m c)) := (Upd.refl _ wr).setCell _ (fun _ => .inr rfl) _
      have HU3 := Lib.hid hu3
      have HB3 : Hid ((wr.setCell ⟨w1.heap.size + 1, 0, none⟩ (.slice ao m c)).heap[w1.heap.size + 1]? = some (foundO (.slice ao m c) (.slice (some ⟨w1.heap.size, 0, none⟩) 1 1) 1)) := b3
      generalize wr.setCell ⟨w1.heap.size + 1, 0, none⟩ (.slice ao m c) = W3 at *
      have hres : W3.heap[w.heap.size]? = some (.cells #[.slice none 0 0, .slice none 0 0, .int .i64 0, .bool false] 50 (0, 0)) := hres3
      have e0 : W3.cell? ⟨w1.heap.size + 1, 0, none⟩ = some (.slice ao m c) := by rw [cell_of HB3.out]; rfl
      have e1 : W3.cell? ⟨w1.heap.size + 1, 1, none⟩ = some (.slice (some ⟨w1.heap.size, 0, none⟩) 1 1) := by rw [cell_of HB3.out]; rfl
      have e2 : W3.cell? ⟨w1.heap.size + 1, 2, none⟩ = some (.int .i64 1) := by rw [cell_of HB3.out]; rfl
      have e3 : W3.cell? ⟨w1.heap.size + 1, 3, none⟩ = some (.bool true) := by rw [cell_of HB3.out]; rfl
      have r0 : W3.cell? ⟨w.heap.size, 0, none⟩ = some (.slice none 0 0) := by rw [cell_of hres]; rfl
      have r1 : W3.cell? ⟨w.heap.size, 1, none⟩ = some (.slice none 0 0) := by rw [cell_of hres]; rfl
      have r2 : W3.cell? ⟨w.heap.size, 2, none⟩ = some (.int .i64 0) := by rw [cell_of hres]; rfl
      have r3 : W3.cell? ⟨w.heap.size, 3, none⟩ = some (.bool false) := by rw [cell_of hres]; rfl
      have g0 : W3.frozen? ⟨w.heap.size, 0, none⟩ = false := frozen_of hres 0
      have g1 : W3.frozen? ⟨w.heap.size, 1, none⟩ = false := frozen_of hres 1
      have g2 : W3.frozen? ⟨w.heap.size, 2, none⟩ = false := frozen_of hres 2
      have g3 : W3.frozen? ⟨w.heap.size, 3, none⟩ = false := frozen_of hres 3
      have h4 := heap_setCell_same (heap_setCell_same (heap_setCell_same (heap_setCell_same hres 0 (.slice ao m c)) 1 (.slice (some ⟨w1.heap.size, 0, none⟩) 1 1)) 2 (.int .i64 1)) 3 (.bool true)
      have hu4 : Upd (fun b => b = w.heap.size ∨ b = w1.heap.size + 1) wr ((((W3.setCell ⟨w.heap.size, 0, none⟩ (.slice ao m c)).setCell ⟨w.heap.size, 1, none⟩ (.slice (some ⟨w1.heap.size, 0, none⟩) 1 1)).setCell ⟨w.heap.size, 2, none⟩ (.int .i64 1)).setCell ⟨w.heap.size, 3, none⟩ (.bool true)) :=
        (((HU3.out.setCell _ (fun _ => .inl rfl) _).setCell _ (fun _ => .inl rfl) _).setCell _ (fun _ => .inl rfl) _).setCell _ (fun _ => .inl rfl) _
      have HH4 : Hid (((((W3.setCell ⟨w.heap.size, 0, none⟩ (.slice ao m c)).setCell ⟨w.heap.size, 1, none⟩ (.slice (some ⟨w1.heap.size, 0, none⟩) 1 1)).setCell ⟨w.heap.size, 2, none⟩ (.int .i64 1)).setCell ⟨w.heap.size, 3, none⟩ (.bool true)).heap[w.heap.size]? = some (foundO (.slice ao m c) (.slice (some ⟨w1.heap.size, 0, none⟩) 1 1) 1)) := h4
      have HF4 := Lib.hid (HFIN.out _ hu4)
      clear hres b3 HBOX HRES d0 d1 d2 d3 f0 HKEY h4 hu4 HU3 hu3 HFIN HEND hres3
      go_wp2
      clear e0 e1 e2 e3 r0 r1 r2 r3 g0 g1 g2 g3
      generalize (((W3.setCell ⟨w.heap.size, 0, none⟩ (.slice ao m c)).setCell ⟨w.heap.size, 1, none⟩ (.slice (some ⟨w1.heap.size, 0, none⟩) 1 1)).setCell ⟨w.heap.size, 2, none⟩ (.int .i64 1)).setCell ⟨w.heap.size, 3, none⟩ (.bool true) = W4 at *
      have q0 : W4.cell? ⟨w.heap.size, 0, none⟩ = some (.slice ao m c) := by rw [cell_of HH4.out]; rfl
      have q1 : W4.cell? ⟨w.heap.size, 1, none⟩ = some (.slice (some ⟨w1.heap.size, 0, none⟩) 1 1) := by rw [cell_of HH4.out]; rfl
      have q2 : W4.cell? ⟨w.heap.size, 2, none⟩ = some (.int .i64 1) := by rw [cell_of HH4.out]; rfl
      have q3 : W4.cell? ⟨w.heap.size, 3, none⟩ = some (.bool true) := by rw [cell_of HH4.out]; rfl
      obtain ⟨t1, t2, t3⟩ := HF4.out
      simp [bodyPost, results, Tryz.results52, go_sem, q0, q1, q2, q3]
      exact ⟨_, _, _, _, ⟨⟨rfl, HM.out.symm, rfl⟩, rfl, rfl⟩, t1, t2, t3⟩
end Go.Proofs.YtmgcaohpbaiiaaaGreatDoor
