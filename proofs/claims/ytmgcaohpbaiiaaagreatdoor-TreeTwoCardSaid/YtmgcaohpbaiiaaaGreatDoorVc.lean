/- The leaf's reference: Unpack; Single. -/
import Derived.Test.YtmgcaohpbaiiaaaGreatDoorVb
set_option linter.unusedSimpArgs false
set_option linter.unusedVariables false
namespace Go.Proofs.YtmgcaohpbaiiaaaGreatDoor
open Go.RowKit Go.Maps Go.Shelf
abbrev pairO (x y : ByteArray) : Obj := .cells #[.string x, .string y] 147 (0, 0)
set_option maxHeartbeats 4000000 in
set_option maxRecDepth 100000 in
theorem runpack_any (w : World) (kind : Nat) (l : List Ent) (hf : Fine kind l) :
    Calls Tryz.prog 56 #[.string (packB kind l)] w fun e w' => ∃ v, e = .returned (.tuple #[.int .i64 kind, v, .int .i64 0]) ∧ EOwn w' w.heap.size v l ∧ Below w.heap.size w w' := by
  have hlen := hf.len
  have hw65 : IntKind.i64.wrap (kind : Int) = kind := IntWalk.i64_in _ (by rcases hf.kind with h | h <;> omega)
  have hw64 : wrap64 (kind : Int) = kind := IntWalk.wrap64_in _ (by rcases hf.kind with h | h <;> omega)
  have hsz := packB_size (kind := kind) hf.size
  obtain ⟨⟨z0, hz0⟩, ⟨z1, hz1⟩⟩ := packB_01 hf
  obtain ⟨pos, HP0, HPC⟩ : ∃ pos : Nat → Nat, Hid (pos 0 = 2) ∧ Hid (∀ k (hk : k < l.length), ∃ (x y : ByteArray) (q : Nat), l[k] = (x, y) ∧ x.size ≤ 32 ∧ y.size ≤ 64 ∧ (∃ h1 : pos k < (packB kind l).size, (packB kind l)[pos k].toNat = x.size) ∧
    (packB kind l).extract (pos k + 1) (pos k + 1 + x.size) = x ∧ q = pos k + 1 + x.size ∧
    (∃ h1 : q < (packB kind l).size, (packB kind l)[q].toNat = y.size) ∧
    (packB kind l).extract (q + 1) (q + 1 + y.size) = y ∧
    q + 1 + y.size = pos (k + 1) ∧ pos (k + 1) ≤ 256) := ⟨fun k => 2 + lSum (l.take k), rfl, fun k hk => by
      obtain ⟨a, b, c, d, e, f⟩ := packB_at hf hk
      exact ⟨l[k].1, l[k].2, _, rfl, (hf.all _ (List.getElem_mem hk)).1, (hf.all _ (List.getElem_mem hk)).2, a, b, rfl, c, d, e, f⟩⟩
  have HPK : Hid (∀ W ao c, Below w.heap.size w W → ERow W ao l → Calls Tryz.prog 93 #[.int .i64 kind, .slice ao l.length c] W fun e w' => e = .returned (.tuple #[.string (packB kind l), .int .i64 0]) ∧ Below W.heap.size W w') := fun W ao c hB hr => rpack_any W ao c kind l hr hf
  have HTK : Hid (∀ k (hk : k < l.length), l.take (k + 1) = l.take k ++ [(l[k]'hk)]) := fun k hk => List.take_succ_eq_append_getElem hk
  have HTA : Hid (l.take l.length = l) := by show _ = _; rw [List.take_length]
  clear hf
  generalize packB kind l = s at *
  obtain ⟨m, HM⟩ : ∃ m, Hid (l.length = m) := ⟨_, Lib.hid rfl⟩
  rw [HM.out] at hz1 HPK hlen HTA
  have hnz : ¬ ((s.size : Int) ≠ 256) := by omega
  go_enter Tryz.func56, Tryz.ntmps56
  go_wp2
  go_loopw [5, 6, 7] (fun vo va vc wr => ∃ (k p : Nat) (ao : Option Addr) (co : Nat), vo = .slice ao k co ∧ va = .int .i64 p ∧ vc = .int .i64 k ∧ k ≤ m ∧ Hid (pos k = p) ∧ Hid (EOwn wr w.heap.size (.slice ao k co) (l.take k)) ∧ Hid (Below w.heap.size w wr)) (fun _ _ vc _ => m - (intOf vc).toNat)
  case atStart => exact ⟨0, 2, none, 0, rfl, rfl, rfl, by omega, HP0, EOwn.nil _ _, Below.refl _ _⟩
  case round =>
    obtain ⟨k, p, ao, co, rfl, rfl, rfl, hk, HPS, HO, HB⟩ := hrel
    obtain ⟨g, hg⟩ : ∃ g, wr.heap.size = g := ⟨_, rfl⟩
    obtain ⟨wo, hwo⟩ : ∃ wo, wo = wr := ⟨_, rfl⟩
    by_cases hlt : k < m
    · have hlt' : k < l.length := by rw [HM.out]; exact hlt
      obtain ⟨x, y, q, exy, hx32, hy64, ⟨x1, x2⟩, x3, hq, ⟨y1, y2⟩, y3, y4, y5⟩ := HPC.out k hlt'
      have htk := HTK.out k hlt'
      rw [exy] at htk
      simp only [HPS.out] at x1 x2 x3 hq
      have HP4 := Lib.hid y4
      have HFIN : Hid (∀ W (g : Nat), Below wr.heap.size wr W → W.heap.size = g → ∃ a2 c2 w3, (Builtin.append_ #[31, 31] 31 #[.slice ao k co, .slice (some ⟨g, 0, none⟩) 1 1]).run Tryz.prog (W.alloc (boxE x y)) = .ok (.slice a2 (k + 1) c2) w3 ∧ EOwn w3 w.heap.size (.slice a2 (k + 1) c2) (l.take (k + 1)) ∧ Below w.heap.size w w3) := fun W g hW hg => by
        subst hg
        have hB1 : Below W.heap.size W (W.alloc (boxE x y)) := (Below.refl _ W).alloc (Nat.le_refl _) _
        have hbox : EBox (W.alloc (boxE x y)) W.heap.size (x, y) := heap_alloc_new' W _
        have hlk : (l.take k).length = k := by rw [List.length_take]; omega
        have hBW := HB.out.trans (hW.mono HB.out.size)
        obtain ⟨a2, c2, w3, hr, ho, hg, -⟩ := ent_append (W.alloc (boxE x y)) w.heap.size (.slice ao k co) (l.take k) [(x, y)] 1 (some ⟨W.heap.size, 0, none⟩) ((HO.out.made hW).made hB1) hbox.row (.inr ⟨_, _, rfl⟩) (by rw [hlk]; simp; omega) (by have := hBW.size; simp; omega)
        rw [hlk, ← htk] at ho
        rw [hlk] at hr
        refine ⟨a2, c2, w3, hr, ho, (hBW.trans (hB1.mono hBW.size)).trans (grown_below hg (fun b hb => by
          have := HO.out.lt b (by simpa [Value.ownBlock] using hb); exact this.1) (by have := hBW.size; simp; omega))⟩
      rw [← hwo] at HFIN
      have HB0 : Hid (Below wo.heap.size wo (wr.alloc (pairO ⟨#[]⟩ ⟨#[]⟩))) := by rw [hwo]; exact (Below.refl _ wr).alloc (Nat.le_refl _) _
      have HH0 : Hid ((wr.alloc (pairO ⟨#[]⟩ ⟨#[]⟩)).heap[g]? = some (pairO ⟨#[]⟩ ⟨#[]⟩)) := by rw [← hg]; exact heap_alloc_new' wr _
      have HWO : Hid (wo.heap.size = g) := by rw [hwo]; exact hg
      clear hwo
      have xl : ¬ ((256 : Int) ≤ (p : Int)) := by omega
      have yl : ¬ ((256 : Int) ≤ (q : Int)) := by omega
      have xg : ¬ ((255 : Int) - (p : Int) < (x.size : Int)) := by omega
      have yg : ¬ ((255 : Int) - (q : Int) < (y.size : Int)) := by omega
      have HQ := Lib.hid hq
      clear HPC HPK HTK htk HO exy HB HP0 hq y5 y4
      go_wp2
      go_loopw [6, 9] (fun va vj wq => ∃ (j : Nat) (u v : ByteArray), vj = .int .i64 j ∧ Hid (wq.heap[g]? = some (pairO u v)) ∧ Hid (Below wo.heap.size wo wq) ∧ ((j = 0 ∧ va = .int .i64 p) ∨ (j = 1 ∧ va = .int .i64 q ∧ u = x) ∨ (j = 2 ∧ va = .int .i64 ((q + 1 + y.size : Nat) : Int) ∧ u = x ∧ v = y))) (fun _ vj _ => 2 - (intOf vj).toNat)
      case atStart => exact ⟨0, ⟨#[]⟩, ⟨#[]⟩, rfl, HH0, HB0, .inl ⟨rfl, rfl⟩⟩
      case round =>
        obtain ⟨j, u, v, rfl, HH, HBq, hcase⟩ := hrel
        have c0 : wr.cell? ⟨g, 0, none⟩ = some (.string u) := by rw [cell_of HH.out]; rfl
        have c1 : wr.cell? ⟨g, 1, none⟩ = some (.string v) := by rw [cell_of HH.out]; rfl
        have f0 : wr.frozen? ⟨g, 0, none⟩ = false := frozen_of HH.out 0
        have f1 : wr.frozen? ⟨g, 1, none⟩ = false := frozen_of HH.out 1
        rcases hcase with ⟨rfl, rfl⟩ | ⟨rfl, rfl, rfl⟩ | ⟨rfl, rfl, rfl, rfl⟩
        · have HH2 : Hid ((wr.setCell ⟨g, 0, none⟩ (.string x)).heap[g]? = some (pairO x v)) := heap_setCell_same HH.out 0 _
          have HB2 : Hid (Below wo.heap.size wo (wr.setCell ⟨g, 0, none⟩ (.string x))) := HBq.out.setCell (by rw [HWO.out]; exact Nat.le_refl _) _
          clear HFIN HH0 HB0 hg
          go_wp2
          go_roundw
          case rel => exact ⟨1, x, v, by go_num, HH2, HB2, .inr (.inl ⟨rfl, by rw [HQ.out]; congr 1; push_cast; omega, rfl⟩)⟩
          case measure => simp [intOf, wrap64]
        · have HH2 : Hid ((wr.setCell ⟨g, 1, none⟩ (.string y)).heap[g]? = some (pairO u y)) := heap_setCell_same HH.out 1 _
          have HB2 : Hid (Below wo.heap.size wo (wr.setCell ⟨g, 1, none⟩ (.string y))) := HBq.out.setCell (by rw [HWO.out]; exact Nat.le_refl _) _
          clear HFIN HH0 HB0 hg
          go_wp2
          go_roundw
          case rel => exact ⟨2, u, y, by go_num, HH2, HB2, .inr (.inr ⟨rfl, by congr 1; push_cast; omega, rfl, rfl⟩)⟩
          case measure => simp [intOf, wrap64]
        · obtain ⟨a2, c2, w3, hr, HO3, HB3⟩ := HFIN.out wr wr.heap.size HBq.out rfl
          have HO4 := Lib.hid HO3
          have HB4 := Lib.hid HB3
          clear HFIN HH0 HB0 HO3 HB3
          go_wp2_with (at_builtin; refine wpList_append_run hr rfl rfl rfl rfl rfl ?_)
          go_roundw
          case rel => exact ⟨k + 1, pos (k + 1), a2, c2, rfl, by rw [← HP4.out]; first | rfl | (congr 1; push_cast; omega), by go_num, by omega, Lib.hid rfl, HO4, HB4⟩
          case measure => simp [intOf]; omega
    · obtain rfl : k = m := by omega
      rw [HTA.out] at HO
      have hO := HO.out
      obtain ⟨ao', c', e, hr, -⟩ := HO.out.parts
      simp at e
      obtain ⟨rfl, -, rfl⟩ := e
      have hpk := HPK.out wr ao co HB.out hr
      have HFIN : Hid (∀ W, Below wr.heap.size wr W → EOwn W w.heap.size (.slice ao k co) l ∧ Below w.heap.size w W) := fun W hB => ⟨HO.out.made hB, HB.out.trans (hB.mono HB.out.size)⟩
      clear hr HO hO HPC HPK HTK
      go_wp2_with (go_at_call 93; refine hpk.mono ?_; rintro e w2 ⟨rfl, hB2⟩)
      go_ret3
      exact ⟨_, rfl, (HFIN.out _ hB2).1, (HFIN.out _ hB2).2⟩
set_option maxHeartbeats 1000000 in
theorem rsingle_any (w : World) (kind : Nat) (l : List Ent) (hf : Fine kind l) :
    Calls Tryz.prog 21 #[.string (packB kind l)] w fun e w' => e = .returned (.bool (decide (kind = 2 ∧ l.length = 1))) ∧ Below w.heap.size w w' := by
  have hU := runpack_any w kind l hf
  have hk := hf.kind
  have HR : Hid (∀ w' v, EOwn w' w.heap.size v l → ∃ ao c, v = .slice ao l.length c) := fun w' v ho => by
    obtain ⟨ao, c, e, -⟩ := ho.parts
    exact ⟨ao, c, e⟩
  clear hf
  generalize packB kind l = s at *
  generalize hl : l.length = m at *
  go_enter Tryz.func21, Tryz.ntmps21
  go_wp2_with fail
  refine hU.mono ?_
  rintro e w1 ⟨v, rfl, ho, hB⟩
  obtain ⟨ao, c, rfl⟩ := HR.out w1 v ho
  clear hU HR ho
  rcases hk with rfl | rfl
  · go_wp2
    go_ret
    exact ⟨rfl, hB⟩
  · by_cases h1 : m = 1
    · subst h1
      go_wp2
      go_ret
      exact ⟨rfl, hB⟩
    · have h2 : ¬ ((m : Int) = 1) := by omega
      go_wp2
      go_ret
      exact ⟨by simp [h1]; exact h2, hB⟩
end Go.Proofs.YtmgcaohpbaiiaaaGreatDoor
