/- The reference's space in memory, and a new one. -/
import Derived.Test.YtdoankamaobkoaaGreatDoorRef10
import Derived.Test.YtdoankamaobkoaaGreatDoorOne
import Derived.Deep.RegionLaw
set_option linter.unusedSimpArgs false
set_option linter.unusedVariables false
namespace Go.Proofs.YtdoankamaobkoaaGreatDoor
open Go.RowKit Go.Maps Go.Shelf

/-- an append whose run is known, as a step of a region that draws its order -/
theorem step_append_run {P : Program} {w w' : World} {v v' x : Value} {ops : Array Oper} {o : Oper} {a : Act} {K : Act → World → Prop} {Q : Exit → Act → World → Prop} {E : Prop} {s y : Operand} {t ty : TypeId} (hr : (Builtin.append_ #[t, t] ty #[v, x]).run P w = .ok v' w') (hgd : o.guard = none) (hty : o.type = ty)
    (ho : o.op = .call { callee := .builtin .append, args := #[s, y], argTypes := #[t, t] }) (hs : a.eval s = v) (hy : a.eval y = x)
    (h : K (a.put o.dst v') w') : if Region.wanted o (yielded ops a.tmps) = true then Oper.wp P o a w K Q else E := by
  have hw : Region.wanted o (yielded ops a.tmps) = true := by simp [Region.wanted, hgd]
  rw [if_pos hw]
  subst hty
  unfold Oper.wp execOp
  simp only [ho, resolve, invoke, builtin, Sem.run_bind, Sem.run_pure, Result.andThen_ok, List.map_toArray, List.map_cons, List.map_nil, hs, hy, hr]
  exact h

/-- the reference's space, as plain data -/
structure Rf where
  top : ByteArray
  pages : List ByteArray
  taken : List Bool
structure RefAt (base : Nat) (w : World) (r : Nat) (vp vt : Value) (n : Int) (R : Rf) : Prop where
  obj : w.heap[r]? = some (.cells #[.int .i64 n, .string R.top, vp, vt] 89 (0, 0))
  pages : w.ownsRow base 9 1 vp R.pages.length (R.pages.map Value.string)
  taken : w.ownsRow base 4 1 vt R.taken.length (R.taken.map Value.bool)
  new : base ≤ r
theorem info_bool : (Tryz.prog.info? 4).map (fun i => (i.zero, i.size, i.bytes)) = some (some (.bool false), 1, 1) := by kernel_rfl
theorem ownsRow_below {w w' : World} {base : Nat} {T : TypeId} {sz : Nat} {v : Value} {n : Nat} {xs : List Value} (h : w.ownsRow base T sz v n xs) (hB : Below w.heap.size w w') : w'.ownsRow base T sz v n xs := by
  obtain ⟨hl, hr⟩ := h
  refine ⟨hl, ?_⟩
  rcases hr with hr | ⟨g, cap, cur, rfl, hb, hg, rest⟩
  · exact .inl hr
  · exact .inr ⟨g, cap, cur, rfl, hb, (hB.block g (lt_of hg)).trans hg, rest⟩
theorem RefAt.made {base : Nat} {w w' : World} {r : Nat} {vp vt : Value} {n : Int} {R : Rf} (h : RefAt base w r vp vt n R) (hB : Below w.heap.size w w') : RefAt base w' r vp vt n R :=
  ⟨(hB.block r (lt_of h.obj)).trans h.obj, ownsRow_below h.pages hB, ownsRow_below h.taken hB, h.new⟩

theorem setCell_other {w : World} {b g i : Nat} {u : Value} (h : g ≠ b) : (w.setCell ⟨b, i, none⟩ u).heap[g]? = w.heap[g]? := Below.heap_setCell w ⟨b, i, none⟩ u g h
theorem RefAt.page {base : Nat} {w w5 w6 : World} {r : Nat} {vp vt vp' : Value} {n : Int} {R : Rf} {z : ByteArray} (h : RefAt base w r vp vt n R) (hB : Below w.heap.size w w5)
    (hown : w6.ownsRow base 9 1 vp' (R.pages.length + 1) (R.pages.map Value.string ++ [.string z])) (hk : ∀ b, b < w5.heap.size → vp.ownBlock ≠ some b → w6.heap[b]? = w5.heap[b]?) :
    RefAt base (w6.setCell ⟨r, 2, none⟩ vp') r vp' vt n ⟨R.top, R.pages ++ [z], R.taken⟩ := by
  have h5 := h.made hB
  have hr : w6.heap[r]? = some (.cells #[.int .i64 n, .string R.top, vp, vt] 89 (0, 0)) := (hk r (lt_of h5.obj) (fun e => by
    obtain ⟨cur, hc⟩ := ownsRow_block h5.pages e; rw [h5.obj] at hc; simp at hc)).trans h5.obj
  refine ⟨heap_setCell_same hr 2 vp', ?_, ?_, h.new⟩
  · have : w6.ownsRow base 9 1 vp' (R.pages ++ [z]).length ((R.pages ++ [z]).map Value.string) := by rw [List.length_append, List.map_append]; exact hown
    refine ownsRow_keep this fun g hg => setCell_other fun e => ?_
    obtain ⟨cur, hc⟩ := ownsRow_block this hg
    rw [e, hr] at hc; simp at hc
  · refine ownsRow_keep h5.taken fun g hg => ?_
    obtain ⟨cur, hc⟩ := ownsRow_block h5.taken hg
    rw [setCell_other (fun e => by rw [e, h5.obj] at hc; simp at hc)]
    exact hk g (lt_of hc) (fun e => by obtain ⟨cur2, hc2⟩ := ownsRow_block h5.pages e; rw [hc] at hc2; simp at hc2)
theorem RefAt.flag {base : Nat} {w w5 w6 : World} {r : Nat} {vp vt vt' : Value} {n : Int} {R : Rf} {z : Bool} (h : RefAt base w r vp vt n R) (hB : Below w.heap.size w w5)
    (hown : w6.ownsRow base 4 1 vt' (R.taken.length + 1) (R.taken.map Value.bool ++ [.bool z])) (hk : ∀ b, b < w5.heap.size → vt.ownBlock ≠ some b → w6.heap[b]? = w5.heap[b]?) :
    RefAt base (w6.setCell ⟨r, 3, none⟩ vt') r vp vt' n ⟨R.top, R.pages, R.taken ++ [z]⟩ := by
  have h5 := h.made hB
  have hr : w6.heap[r]? = some (.cells #[.int .i64 n, .string R.top, vp, vt] 89 (0, 0)) := (hk r (lt_of h5.obj) (fun e => by
    obtain ⟨cur, hc⟩ := ownsRow_block h5.taken e; rw [h5.obj] at hc; simp at hc)).trans h5.obj
  refine ⟨heap_setCell_same hr 3 vt', ?_, ?_, h.new⟩
  · refine ownsRow_keep h5.pages fun g hg => ?_
    obtain ⟨cur, hc⟩ := ownsRow_block h5.pages hg
    rw [setCell_other (fun e => by rw [e, h5.obj] at hc; simp at hc)]
    exact hk g (lt_of hc) (fun e => by obtain ⟨cur2, hc2⟩ := ownsRow_block h5.taken e; rw [hc] at hc2; simp at hc2)
  · have : w6.ownsRow base 4 1 vt' (R.taken ++ [z]).length ((R.taken ++ [z]).map Value.bool) := by rw [List.length_append, List.map_append]; exact hown
    refine ownsRow_keep this fun g hg => setCell_other fun e => ?_
    obtain ⟨cur, hc⟩ := ownsRow_block this hg
    rw [e, hr] at hc; simp at hc

def newRf (k : Nat) : Rf := ⟨zerosB 248, List.replicate k (zerosB 256), List.replicate k false⟩
set_option maxHeartbeats 2000000 in
set_option maxRecDepth 100000 in
theorem rnew_any (n : Int) (w : World) (h1 : 64 ≤ n) (h2 : n ≤ 2048) :
    Calls Tryz.prog 22 #[.int .i64 n] w fun e w' => ∃ r vp vt, e = .returned (.pointer (some ⟨r, 0, none⟩)) ∧ RefAt w.heap.size w' r vp vt n (newRf (spMany n)) ∧ Below w.heap.size w w' := by
  obtain ⟨m1, m2, m3⟩ := spMany_bd h1 h2
  have HP : Hid (∀ W, Calls Tryz.prog 12 #[.int .i64 n] W fun e w' => e = .returned (.int .i64 ((spMany n : Int) + 2)) ∧ W = w') := fun W => by
    have := rpages_any n W h1 h2
    rw [show jPages n = (spMany n : Int) + 2 by omega] at this
    exact this
  clear m3
  generalize spMany n = m at *
  go_enter Tryz.func22, Tryz.ntmps22
  go_wp2_with fail
  refine (zeros_any 248 w (by omega)).mono ?_
  rintro e w1 ⟨rfl, hB1⟩
  have HR0 : Hid (RefAt w.heap.size (w1.alloc (.cells #[.int .i64 n, .string (zerosB 248), .slice none 0 0, .slice none 0 0] 89)) w1.heap.size (.slice none 0 0) (.slice none 0 0) n (newRf 0)) :=
    ⟨heap_alloc_new' _ _, World.ownsRow_nil _ _ _ _, World.ownsRow_nil _ _ _ _, hB1.size⟩
  have HB0 : Hid (Below w.heap.size w (w1.alloc (.cells #[.int .i64 n, .string (zerosB 248), .slice none 0 0, .slice none 0 0] 89))) := hB1.alloc hB1.size _
  clear hB1
  go_wp2
  have HM : Hid (∀ k wr r vp vt, RefAt w.heap.size wr r vp vt n (newRf k) → k < 2000 → ∀ w5, Below wr.heap.size wr w5 →
      w5.cell? ⟨r, 2, none⟩ = some vp ∧ w5.frozen? ⟨r, 2, none⟩ = false ∧ ∃ ao co w6, (Builtin.append_ #[79, 79] 79 #[vp, .slice (some ⟨w5.heap.size, 0, none⟩) 1 1]).run Tryz.prog (w5.alloc (.cells #[.string (zerosB 256)] 9)) = .ok (.slice ao (k + 1) co) w6 ∧
        w6.cell? ⟨r, 2, none⟩ = some vp ∧ w6.frozen? ⟨r, 2, none⟩ = false ∧
        RefAt w.heap.size (w6.setCell ⟨r, 2, none⟩ (.slice ao (k + 1) co)) r (.slice ao (k + 1) co) vt n ⟨zerosB 248, List.replicate (k + 1) (zerosB 256), List.replicate k false⟩ ∧
        (Below w.heap.size w wr → Below w.heap.size w (w6.setCell ⟨r, 2, none⟩ (.slice ao (k + 1) co)))) := fun k wr r vp vt h hk w5 h5 => by
    have hm := h.made h5
    have hl : (newRf k).pages.length = k := by simp [newRf]
    obtain ⟨ao, co, w6, hr, hown, hB, hkp, hsz⟩ := one_append_at 9 79 (.string ⟨#[]⟩) 16 info_str Tryz.underlying79 rfl (by omega) w5 w.heap.size vp _ _ (.string (zerosB 256)) rfl hm.pages (by rw [hl]; omega) (by have := hm.new; have := lt_of hm.obj; omega)
    have hob : w6.heap[r]? = w5.heap[r]? := hkp r (lt_of hm.obj) (fun e => by obtain ⟨cur, hc⟩ := ownsRow_block hm.pages e; rw [hm.obj] at hc; simp at hc)
    have hR := h.page h5 hown hkp
    rw [hl] at hr hown hR
    rw [show (newRf k).pages ++ [zerosB 256] = List.replicate (k + 1) (zerosB 256) by rw [List.replicate_succ']; rfl] at hR
    refine ⟨by rw [cell_of hm.obj]; rfl, frozen_of hm.obj 2, ao, co, w6, hr, by rw [cell_of (hob.trans hm.obj)]; rfl, frozen_of (hob.trans hm.obj) 2, hR, fun hb => ?_⟩
    exact (hB w w.heap.size (hb.trans (h5.mono hb.size)) (Nat.le_refl _) (Nat.le_refl _)).setCell (p := ⟨r, 2, none⟩) h.new _
  have HF : Hid (∀ k wr r vp vt, RefAt w.heap.size wr r vp vt n ⟨zerosB 248, List.replicate (k + 1) (zerosB 256), List.replicate k false⟩ → k < 2000 →
      wr.cell? ⟨r, 3, none⟩ = some vt ∧ wr.frozen? ⟨r, 3, none⟩ = false ∧ ∃ ao co w6, (Builtin.append_ #[37, 37] 37 #[vt, .slice (some ⟨wr.heap.size, 0, none⟩) 1 1]).run Tryz.prog (wr.alloc (.cells #[.bool false] 4)) = .ok (.slice ao (k + 1) co) w6 ∧
        w6.cell? ⟨r, 3, none⟩ = some vt ∧ w6.frozen? ⟨r, 3, none⟩ = false ∧
        RefAt w.heap.size (w6.setCell ⟨r, 3, none⟩ (.slice ao (k + 1) co)) r vp (.slice ao (k + 1) co) n (newRf (k + 1)) ∧
        (Below w.heap.size w wr → Below w.heap.size w (w6.setCell ⟨r, 3, none⟩ (.slice ao (k + 1) co)))) := fun k wr r vp vt hm hk => by
    have hl : (List.replicate k false).length = k := by simp
    obtain ⟨ao, co, w6, hr, hown, hB, hkp, hsz⟩ := one_append_at 4 37 (.bool false) 1 info_bool Tryz.underlying37 rfl (by omega) wr w.heap.size vt _ _ (.bool false) rfl hm.taken (by simp; omega) (by have := hm.new; have := lt_of hm.obj; omega)
    have hob : w6.heap[r]? = wr.heap[r]? := hkp r (lt_of hm.obj) (fun e => by obtain ⟨cur, hc⟩ := ownsRow_block hm.taken e; rw [hm.obj] at hc; simp at hc)
    have hR := hm.flag (Below.refl _ _) hown hkp
    simp only [hl] at hr hown hR
    rw [show List.replicate k false ++ [false] = List.replicate (k + 1) false by rw [List.replicate_succ']] at hR
    refine ⟨by rw [cell_of hm.obj]; rfl, frozen_of hm.obj 3, ao, co, w6, hr, by rw [cell_of (hob.trans hm.obj)]; rfl, frozen_of (hob.trans hm.obj) 3, hR, fun hb => ?_⟩
    exact (hB w w.heap.size hb (Nat.le_refl _) (Nat.le_refl _)).setCell (p := ⟨r, 3, none⟩) hm.new _
  generalize (w1.alloc (.cells #[.int .i64 n, .string (zerosB 248), .slice none 0 0, .slice none 0 0] 89)) = w2 at *
  generalize w1.heap.size = r at *
  go_loopw [4] (fun i wr => ∃ (k : Nat) (vp vt : Value), i = .int .i64 k ∧ k ≤ m ∧ Hid (RefAt w.heap.size wr r vp vt n (newRf k)) ∧ Hid (Below w.heap.size w wr)) (fun i _ => m - (intOf i).toNat)
  case atStart => exact ⟨0, _, _, rfl, by omega, HR0, HB0⟩
  case round =>
    obtain ⟨k, vp, vt, rfl, hk, HR, HB⟩ := hrel
    have hp := HP.out wr
    by_cases hlt : k < m
    · have HM5 := Lib.hid (HM.out k wr r vp vt HR.out (by omega))
      have HZ := Lib.hid (zeros_any 256 wr.drew (by omega))
      have hc0 : wr.drew.cell? ⟨r, 2, none⟩ = some vp := (HM5.out wr (Below.refl _ _)).1
      clear HM HR0 HB0
      go_upto_region 5 with (go_at_call 12; refine hp.mono ?_; rintro e w' ⟨rfl, rfl⟩)
      go_region_law (first
        | (refine step_append_run hrun rfl rfl rfl rfl rfl ?_)
        | (go_simp; go_at_call 56; refine HZ.out.mono ?_; rintro e w5 ⟨rfl, hB5⟩
           obtain ⟨c5, f5, ao, co, w6, hrun, c6, f6, HR6, HB6⟩ := HM5.out w5 (((Below.refl _ wr).drew).trans hB5)
           have hr5 := World.block_lt_of_cell? w5 _ c5
           have c5b : ∀ o, (w5.alloc o).cell? ⟨r, 2, none⟩ = some vp := fun o => by rw [World.cell?_alloc_lt _ _ ⟨r, 2, none⟩ hr5]; exact c5))
      all_goals
        have HR7 := Lib.hid HR6
        have HB7 := Lib.hid (HB6 HB.out)
        clear HR6 HB6 hrun c6 f6 c5b c5 f5 HM5 HZ hr5 HR HB hc0
        generalize (w6.setCell ⟨r, 2, none⟩ (.slice ao (k + 1) co)) = w7 at *
        obtain ⟨c7, f7, ao2, co2, w8, hrun2, c8, f8, HR8, HB8⟩ := HF.out k w7 r _ vt HR7.out (by omega)
        have HR9 := Lib.hid HR8
        have HB9 := Lib.hid (HB8 HB7.out)
        clear HR8 HB8 HF
        go_wp2_with (at_builtin; refine wpList_append_run hrun2 rfl rfl rfl rfl rfl ?_)
        go_roundw
        case rel => exact ⟨k + 1, _, _, by go_num, by omega, HR9, HB9⟩
        case measure => simp [intOf]; omega
    · obtain rfl : k = m := by omega
      clear HM HF
      go_wp2_with (go_at_call 12; refine hp.mono ?_; rintro e w' ⟨rfl, rfl⟩)
      go_ret
      exact ⟨r, vp, vt, rfl, HR.out, HB.out⟩
end Go.Proofs.YtdoankamaobkoaaGreatDoor
