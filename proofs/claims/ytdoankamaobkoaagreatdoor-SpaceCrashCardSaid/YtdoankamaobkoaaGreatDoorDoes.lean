/- does: an act on both (printed by wip/gen_does.py). -/
import Derived.Test.YtdoankamaobkoaaGreatDoorDb
set_option linter.unusedSimpArgs false
set_option linter.unusedVariables false
namespace Go.Proofs.YtdoankamaobkoaaGreatDoor
open Go.RowKit Go.Maps Go.Shelf

def DwEx (w0 w : World) (W s d : Nat) (z N : Int) : Prop := ∃ F V D r1 lo1 hi1 R1 r2 lo2 hi2 R2, Dw w0 w W s d F z V D N r1 lo1 hi1 R1 r2 lo2 hi2 R2 ∧ Rep z V R1 ∧ Rep z D R2
def actV (k a : Int) (tx : ByteArray) : Value := .agg #[.int .i64 k, .int .i64 a, .string tx]
theorem zeroPg_zeros : zeroPg = zerosB 256 := fill_nil
section
variable {w0 w : World} {W s d : Nat} {F : Nat → Prop} {z N : Int} {V D : Int → ByteArray} {r1 lo1 hi1 r2 lo2 hi2 : Nat} {R1 R2 : Rf}
set_option maxHeartbeats 4000000 in
set_option maxRecDepth 100000 in
theorem does_9 (h : Dw w0 w W s d F z V D N r1 lo1 hi1 R1 r2 lo2 hi2 R2) (hp1 : Rep z V R1) (hp2 : Rep z D R2) (k a : Int) (tx : ByteArray) (hkw : (Lit.int .i64 k).wf = true) (htx : tx.size ≤ 140737488355328) (hk : kindI k 10 = 9) (hN : N < 100000000000) :
    Calls Tryz.prog 23 #[.pointer (some ⟨W, 0, none⟩), actV k a tx] w fun e w' => e = .returned (.bool true) ∧ DwEx w0 w' W s d z (N + 9000) := by
  have HK := Lib.hid (fun X => kind_any k 10 X hkw (by omega) (by omega))
  rw [hk] at HK
  have HBD := Lib.hid h.sin.bd
  have HD : Hid (∀ o, Dw w0 (w.alloc o) W s d F z V D N r1 lo1 hi1 R1 r2 lo2 hi2 R2) := fun o => h.made ((Below.refl _ w).alloc (Nat.le_refl _) o)
  have c1 : ∀ o, (w.alloc o).cell? ⟨W, 1, none⟩ = some (.pointer (some ⟨s, 0, none⟩)) := fun o => (HD.out o).cells.2.1
  have c2 : ∀ o, (w.alloc o).cell? ⟨W, 2, none⟩ = some (.pointer (some ⟨r1, 0, none⟩)) := fun o => (HD.out o).cells.2.2.1
  have HP1 := Lib.hid hp1
  have HP2 := Lib.hid hp2
  have HNN := Lib.hid hN
  have HH : Hid (∀ o, Calls Tryz.prog 25 #[.pointer (some ⟨s, 0, none⟩)] (w.alloc o) fun e w' => e = .returned (.tuple #[.string R1.top, .int .i64 0]) ∧ SStp w0 (w.alloc o) w' s d F z V D (N + 2)) := fun o => by
    have := head_sp (HD.out o).sin (by omega)
    rw [hp1.top] at this
    exact this
  have HTOP : Hid (∀ X, RIn X r1 lo1 hi1 z R1 → X.cell? ⟨r1, 1, none⟩ = some (.string R1.top)) := fun X hx => by obtain ⟨_, _, _, _, hS⟩ := hx.see; exact hS.c1
  clear h hp1 hp2 hk hN htx
  unfold actV
  generalize R1.top = tp at *
  go_enter Tryz.func23, Tryz.ntmps23
  go_wp2_with (go_at_call 30; refine (HK.out _).mono ?_; rintro e w' ⟨rfl, rfl⟩)
  refine (HH.out _).mono ?_
  rintro e w1 ⟨rfl, hS⟩
  have HD1 := Lib.hid ((HD.out _).space hS)
  have d2 := HD1.out.cells.2.2.1
  have d3 := HTOP.out _ HD1.out.now
  clear hS HH HD c1 c2
  go_wp2
  go_ret
  exact ⟨rfl, _, _, _, _, _, _, _, _, _, _, _, HD1.out.mono (by omega), HP1.out, HP2.out⟩
set_option maxHeartbeats 4000000 in
set_option maxRecDepth 100000 in
theorem does_7 (h : Dw w0 w W s d F z V D N r1 lo1 hi1 R1 r2 lo2 hi2 R2) (hp1 : Rep z V R1) (hp2 : Rep z D R2) (k a : Int) (tx : ByteArray) (hkw : (Lit.int .i64 k).wf = true) (htx : tx.size ≤ 140737488355328) (hk : kindI k 10 = 7) (hN : N < 100000000000) :
    Calls Tryz.prog 23 #[.pointer (some ⟨W, 0, none⟩), actV k a tx] w fun e w' => e = .returned (.bool true) ∧ DwEx w0 w' W s d z (N + 9000) := by
  have HK := Lib.hid (fun X => kind_any k 10 X hkw (by omega) (by omega))
  rw [hk] at HK
  have HBD := Lib.hid h.sin.bd
  have HD : Hid (∀ o, Dw w0 (w.alloc o) W s d F z V D N r1 lo1 hi1 R1 r2 lo2 hi2 R2) := fun o => h.made ((Below.refl _ w).alloc (Nat.le_refl _) o)
  have c1 : ∀ o, (w.alloc o).cell? ⟨W, 1, none⟩ = some (.pointer (some ⟨s, 0, none⟩)) := fun o => (HD.out o).cells.2.1
  have c2 : ∀ o, (w.alloc o).cell? ⟨W, 2, none⟩ = some (.pointer (some ⟨r1, 0, none⟩)) := fun o => (HD.out o).cells.2.2.1
  have HP1 := Lib.hid hp1
  have HP2 := Lib.hid hp2
  have HNN := Lib.hid hN
  clear h hp1 hp2 hk hN htx
  unfold actV
  go_enter Tryz.func23, Tryz.ntmps23
  go_wp2_with (go_at_call 30; refine (HK.out _).mono ?_; rintro e w' ⟨rfl, rfl⟩)
  refine (undo_sp (HD.out _).sin).mono ?_
  rintro e w1 ⟨rfl, hS⟩
  have HD1 := Lib.hid ((HD.out _).space hS)
  have d3 := HD1.out.cells.2.2.2.1
  clear hS HD c1 c2
  go_wp2_with fail
  refine (rcopy_any HD1.out.was).mono ?_
  rintro e w2 ⟨x, rfl, hB, hx⟩
  have HD2 := Lib.hid (HD1.out.made hB)
  have HD3 := Lib.hid (HD1.out.back hB hx)
  have e2 := HD2.out.cells.2.2.1
  have e3 := HD2.out.cells.2.2.2.2 2
  clear hB hx d3
  go_wp2
  go_ret
  exact ⟨rfl, _, _, _, _, _, _, _, _, _, _, _, HD3.out.mono (by omega), HP2.out, HP2.out⟩
set_option maxHeartbeats 4000000 in
set_option maxRecDepth 100000 in
theorem does_6 (h : Dw w0 w W s d F z V D N r1 lo1 hi1 R1 r2 lo2 hi2 R2) (hp1 : Rep z V R1) (hp2 : Rep z D R2) (k a : Int) (tx : ByteArray) (hkw : (Lit.int .i64 k).wf = true) (htx : tx.size ≤ 140737488355328) (hk : kindI k 10 = 6) (hN : N < 100000000000) :
    Calls Tryz.prog 23 #[.pointer (some ⟨W, 0, none⟩), actV k a tx] w fun e w' => e = .returned (.bool true) ∧ DwEx w0 w' W s d z (N + 9000) := by
  have HK := Lib.hid (fun X => kind_any k 10 X hkw (by omega) (by omega))
  rw [hk] at HK
  have HBD := Lib.hid h.sin.bd
  have HD : Hid (∀ o, Dw w0 (w.alloc o) W s d F z V D N r1 lo1 hi1 R1 r2 lo2 hi2 R2) := fun o => h.made ((Below.refl _ w).alloc (Nat.le_refl _) o)
  have c1 : ∀ o, (w.alloc o).cell? ⟨W, 1, none⟩ = some (.pointer (some ⟨s, 0, none⟩)) := fun o => (HD.out o).cells.2.1
  have c2 : ∀ o, (w.alloc o).cell? ⟨W, 2, none⟩ = some (.pointer (some ⟨r1, 0, none⟩)) := fun o => (HD.out o).cells.2.2.1
  have HP1 := Lib.hid hp1
  have HP2 := Lib.hid hp2
  have HNN := Lib.hid hN
  clear h hp1 hp2 hk hN htx
  unfold actV
  go_enter Tryz.func23, Tryz.ntmps23
  go_wp2_with (go_at_call 30; refine (HK.out _).mono ?_; rintro e w' ⟨rfl, rfl⟩)
  refine (rcopy_any (HD.out _).now).mono ?_
  rintro e w2 ⟨x, rfl, hB, hx⟩
  have HD2 := Lib.hid ((HD.out _).made hB)
  have HD3 := Lib.hid ((HD.out _).keep hB hx)
  have e2 := HD2.out.cells.2.2.2.1
  have e3 := HD2.out.cells.2.2.2.2 3
  have f1 := HD3.out.cells.2.1
  clear hB hx c1 c2 HD HD2
  go_wp2_with fail
  refine (commit_sp HD3.out.sin (by have := HNN.out; omega)).mono ?_
  rintro e w3 ⟨rfl, hS⟩
  have HD4 := Lib.hid (HD3.out.space hS)
  clear hS f1
  go_wp2
  go_ret
  exact ⟨rfl, _, _, _, _, _, _, _, _, _, _, _, HD4.out.mono (by omega), HP1.out, HP1.out⟩
set_option maxHeartbeats 4000000 in
set_option maxRecDepth 100000 in
theorem does_3 (h : Dw w0 w W s d F z V D N r1 lo1 hi1 R1 r2 lo2 hi2 R2) (hp1 : Rep z V R1) (hp2 : Rep z D R2) (k a : Int) (tx : ByteArray) (hkw : (Lit.int .i64 k).wf = true) (htx : tx.size ≤ 140737488355328) (hk : kindI k 10 = 3) (hN : N < 100000000000) :
    Calls Tryz.prog 23 #[.pointer (some ⟨W, 0, none⟩), actV k a tx] w fun e w' => e = .returned (.bool true) ∧ DwEx w0 w' W s d z (N + 9000) := by
  have HK := Lib.hid (fun X => kind_any k 10 X hkw (by omega) (by omega))
  rw [hk] at HK
  have HBD := Lib.hid h.sin.bd
  have HD : Hid (∀ o, Dw w0 (w.alloc o) W s d F z V D N r1 lo1 hi1 R1 r2 lo2 hi2 R2) := fun o => h.made ((Below.refl _ w).alloc (Nat.le_refl _) o)
  have c1 : ∀ o, (w.alloc o).cell? ⟨W, 1, none⟩ = some (.pointer (some ⟨s, 0, none⟩)) := fun o => (HD.out o).cells.2.1
  have c2 : ∀ o, (w.alloc o).cell? ⟨W, 2, none⟩ = some (.pointer (some ⟨r1, 0, none⟩)) := fun o => (HD.out o).cells.2.2.1
  have HP1 := Lib.hid hp1
  have HP2 := Lib.hid hp2
  have HNN := Lib.hid hN
  rcases first_free R1 (spMany z) with ha | ⟨j, hj, ha, hf⟩
  · have HX : Hid (∀ o, _) := fun o => alloc_none (HD.out o).sin (rep_none hp1 HBD.out.1 HBD.out.2 ha) (by omega)
    have HY : Hid (∀ X, RIn X r1 lo1 hi1 z R1 → _) := fun X hx => ralloc_none (w := X) hx ha
    clear h hp1 hp2 hk hN htx ha
    unfold actV
    go_enter Tryz.func23, Tryz.ntmps23
    go_wp2_with (go_at_call 30; refine (HK.out _).mono ?_; rintro e w' ⟨rfl, rfl⟩)
    refine (HX.out _).mono ?_
    rintro e w1 ⟨rfl, hS⟩
    have HD1 := Lib.hid ((HD.out _).space hS)
    have d2 := HD1.out.cells.2.2.1
    clear hS HD c1 c2 HX
    go_wp2_with fail
    refine (HY.out _ HD1.out.now).mono ?_
    rintro e w2 ⟨rfl, rfl⟩
    clear HY
    go_wp2
    go_ret
    exact ⟨rfl, _, _, _, _, _, _, _, _, _, _, _, HD1.out.mono (by omega), HP1.out, HP2.out⟩
  · have HX : Hid (∀ o, _) := fun o => alloc_some (HD.out o).sin (rep_some hp1 HBD.out.1 HBD.out.2 hj ha hf) (by omega)
    have HY : Hid (∀ X, RIn X r1 lo1 hi1 z R1 → _) := fun X hx => ralloc_some (w := X) hx j hj ha hf
    have HG : Hid (Rep z (spGot z V j) (rGot R1 j)) := rep_got hp1 HBD.out.1 HBD.out.2 (h.sin.size h.sin.first) hj hf zeroPg_zeros
    clear h hp1 hp2 hk hN htx ha hf
    unfold actV
    generalize jFirst z + 1 + (j : Int) = at0 at *
    go_enter Tryz.func23, Tryz.ntmps23
    go_wp2_with (go_at_call 30; refine (HK.out _).mono ?_; rintro e w' ⟨rfl, rfl⟩)
    refine (HX.out _).mono ?_
    rintro e w1 ⟨rfl, hS⟩
    have HD1 := Lib.hid ((HD.out _).space hS)
    have d2 := HD1.out.cells.2.2.1
    clear hS HD c1 c2 HX
    go_wp2_with fail
    refine (HY.out _ HD1.out.now).mono ?_
    rintro e w2 ⟨rfl, hR, hU⟩
    have HD2 := Lib.hid (HD1.out.ref hR hU)
    clear HY hR hU d2
    go_wp2
    go_ret
    exact ⟨rfl, _, _, _, _, _, _, _, _, _, _, _, HD2.out.mono (by omega), HG.out, HP2.out⟩
set_option maxHeartbeats 4000000 in
set_option maxRecDepth 100000 in
theorem does_4 (h : Dw w0 w W s d F z V D N r1 lo1 hi1 R1 r2 lo2 hi2 R2) (hp1 : Rep z V R1) (hp2 : Rep z D R2) (k a : Int) (tx : ByteArray) (hkw : (Lit.int .i64 k).wf = true) (htx : tx.size ≤ 140737488355328) (hk : kindI k 10 = 4) (hN : N < 100000000000) :
    Calls Tryz.prog 23 #[.pointer (some ⟨W, 0, none⟩), actV k a tx] w fun e w' => e = .returned (.bool true) ∧ DwEx w0 w' W s d z (N + 9000) := by
  have HK := Lib.hid (fun X => kind_any k 10 X hkw (by omega) (by omega))
  rw [hk] at HK
  have HBD := Lib.hid h.sin.bd
  have HD : Hid (∀ o, Dw w0 (w.alloc o) W s d F z V D N r1 lo1 hi1 R1 r2 lo2 hi2 R2) := fun o => h.made ((Below.refl _ w).alloc (Nat.le_refl _) o)
  have c1 : ∀ o, (w.alloc o).cell? ⟨W, 1, none⟩ = some (.pointer (some ⟨s, 0, none⟩)) := fun o => (HD.out o).cells.2.1
  have c2 : ∀ o, (w.alloc o).cell? ⟨W, 2, none⟩ = some (.pointer (some ⟨r1, 0, none⟩)) := fun o => (HD.out o).cells.2.2.1
  have HP1 := Lib.hid hp1
  have HP2 := Lib.hid hp2
  have HNN := Lib.hid hN
  rcases first_free R1 (spMany z) with ha | ⟨j, hj, ha, hf⟩
  · have HX : Hid (∀ o, _) := fun o => alloc_none (HD.out o).sin (rep_none hp1 HBD.out.1 HBD.out.2 ha) (by omega)
    have HY : Hid (∀ X, RIn X r1 lo1 hi1 z R1 → _) := fun X hx => ralloc_none (w := X) hx ha
    clear h hp1 hp2 hk hN htx ha
    unfold actV
    go_enter Tryz.func23, Tryz.ntmps23
    go_wp2_with (go_at_call 30; refine (HK.out _).mono ?_; rintro e w' ⟨rfl, rfl⟩)
    refine (HX.out _).mono ?_
    rintro e w1 ⟨rfl, hS⟩
    have HD1 := Lib.hid ((HD.out _).space hS)
    have d2 := HD1.out.cells.2.2.1
    clear hS HD c1 c2 HX
    go_wp2_with fail
    refine (HY.out _ HD1.out.now).mono ?_
    rintro e w2 ⟨rfl, rfl⟩
    clear HY
    go_wp2
    go_ret
    exact ⟨rfl, _, _, _, _, _, _, _, _, _, _, _, HD1.out.mono (by omega), HP1.out, HP2.out⟩
  · have HX : Hid (∀ o, _) := fun o => alloc_some (HD.out o).sin (rep_some hp1 HBD.out.1 HBD.out.2 hj ha hf) (by omega)
    have HY : Hid (∀ X, RIn X r1 lo1 hi1 z R1 → _) := fun X hx => ralloc_some (w := X) hx j hj ha hf
    have HG : Hid (Rep z (spGot z V j) (rGot R1 j)) := rep_got hp1 HBD.out.1 HBD.out.2 (h.sin.size h.sin.first) hj hf zeroPg_zeros
    clear h hp1 hp2 hk hN htx ha hf
    unfold actV
    generalize jFirst z + 1 + (j : Int) = at0 at *
    go_enter Tryz.func23, Tryz.ntmps23
    go_wp2_with (go_at_call 30; refine (HK.out _).mono ?_; rintro e w' ⟨rfl, rfl⟩)
    refine (HX.out _).mono ?_
    rintro e w1 ⟨rfl, hS⟩
    have HD1 := Lib.hid ((HD.out _).space hS)
    have d2 := HD1.out.cells.2.2.1
    clear hS HD c1 c2 HX
    go_wp2_with fail
    refine (HY.out _ HD1.out.now).mono ?_
    rintro e w2 ⟨rfl, hR, hU⟩
    have HD2 := Lib.hid (HD1.out.ref hR hU)
    clear HY hR hU d2
    go_wp2
    go_ret
    exact ⟨rfl, _, _, _, _, _, _, _, _, _, _, _, HD2.out.mono (by omega), HG.out, HP2.out⟩
set_option maxHeartbeats 4000000 in
set_option maxRecDepth 100000 in
theorem does_0 (h : Dw w0 w W s d F z V D N r1 lo1 hi1 R1 r2 lo2 hi2 R2) (hp1 : Rep z V R1) (hp2 : Rep z D R2) (k a : Int) (tx : ByteArray) (hkw : (Lit.int .i64 k).wf = true) (htx : tx.size ≤ 140737488355328) (hk : kindI k 10 = 0) (hN : N < 100000000000) :
    Calls Tryz.prog 23 #[.pointer (some ⟨W, 0, none⟩), actV k a tx] w fun e w' => e = .returned (.bool true) ∧ DwEx w0 w' W s d z (N + 9000) := by
  have HK := Lib.hid (fun X => kind_any k 10 X hkw (by omega) (by omega))
  rw [hk] at HK
  have HBD := Lib.hid h.sin.bd
  have HD : Hid (∀ o, Dw w0 (w.alloc o) W s d F z V D N r1 lo1 hi1 R1 r2 lo2 hi2 R2) := fun o => h.made ((Below.refl _ w).alloc (Nat.le_refl _) o)
  have c1 : ∀ o, (w.alloc o).cell? ⟨W, 1, none⟩ = some (.pointer (some ⟨s, 0, none⟩)) := fun o => (HD.out o).cells.2.1
  have c2 : ∀ o, (w.alloc o).cell? ⟨W, 2, none⟩ = some (.pointer (some ⟨r1, 0, none⟩)) := fun o => (HD.out o).cells.2.2.1
  have HP1 := Lib.hid hp1
  have HP2 := Lib.hid hp2
  have HNN := Lib.hid hN
  have HB : Hid (∀ o, _) := fun o => Db.start h o
  have HX : Hid (∀ X F' M, SIn w0 X s d F' z V D M → M < 200000000000 → Calls Tryz.prog 26 #[.pointer (some ⟨s, 0, none⟩), .int .i64 a] X fun e w' => e = .returned (.tuple #[.string (rGet z R1 a), .int .i64 (rMay z R1 a)]) ∧ SStp w0 X w' s d F' z V D (M + 4)) := fun X F' M hx hM => by
    have := get_sp hx a (by omega)
    rw [rep_get hp1 HBD.out.1 HBD.out.2, rep_taken hp1 HBD.out.1 HBD.out.2] at this
    exact this
  have HY : Hid (∀ X, RIn X r1 lo1 hi1 z R1 → _) := fun X hx => rget_any (w := X) hx a
  clear h hp1 hp2 hk hN htx
  unfold actV
  generalize rGet z R1 a = x0 at *
  generalize rMay z R1 a = y0 at *
  go_enter Tryz.func23, Tryz.ntmps23
  go_upto_region 5 with (go_at_call 30; refine (HK.out _).mono ?_; rintro e w' ⟨rfl, rfl⟩)
  have HB1 := Lib.hid ((HB.out (Obj.cells #[.int .i64 k, .int .i64 a, .string tx] 50 (0, 0))).made ((Below.refl _ _).drew))
  obtain ⟨l1, l2, l3, l4⟩ := HB1.out.lds
  clear c1 c2 HB HD HK
  generalize w.alloc (Obj.cells #[.int .i64 k, .int .i64 a, .string tx] 50 (0, 0)) = w1 at *
  go_region_held3 (fun w' => w'.cell? ⟨W, 1, none⟩ = some (.pointer (some ⟨s, 0, none⟩)) ∧ w'.cell? ⟨W, 2, none⟩ = some (.pointer (some ⟨r1, 0, none⟩)) ∧ w'.cell? ⟨w.heap.size, 1, none⟩ = some (.int .i64 a) ∧ w'.cell? ⟨w.heap.size, 2, none⟩ = some (.string tx)) (go_keep)
    (first
    | (go_at_call 26; refine (HX.out _ _ _ HB1.out.dw.sin (by have := HNN.out; omega)).mono ?_; rintro e w2 ⟨rfl, hS⟩
       have HB2 := Lib.hid (HB1.out.space hS)
       obtain ⟨m1, m2, m3, m4⟩ := HB2.out.lds
       clear hS HX))
  have HB3 := Lib.hid (HB2.out.made ((Below.refl _ _).drew))
  obtain ⟨n1, n2, n3, n4⟩ := HB3.out.lds
  go_upto_region 6 with fail
  go_region_held3 (fun w' => w'.cell? ⟨W, 1, none⟩ = some (.pointer (some ⟨s, 0, none⟩)) ∧ w'.cell? ⟨W, 2, none⟩ = some (.pointer (some ⟨r1, 0, none⟩)) ∧ w'.cell? ⟨w.heap.size, 1, none⟩ = some (.int .i64 a) ∧ w'.cell? ⟨w.heap.size, 2, none⟩ = some (.string tx)) (go_keep)
    (first
    | (go_at_call 55; refine (HY.out _ HB3.out.dw.now).mono ?_; rintro e w4 ⟨rfl, rfl⟩
       clear HY))
  go_wp2
  go_ret
  exact ⟨rfl, _, _, _, _, _, _, _, _, _, _, _, HB3.out.dw.mono (by omega), HP1.out, HP2.out⟩
set_option maxHeartbeats 4000000 in
set_option maxRecDepth 100000 in
theorem does_5 (h : Dw w0 w W s d F z V D N r1 lo1 hi1 R1 r2 lo2 hi2 R2) (hp1 : Rep z V R1) (hp2 : Rep z D R2) (k a : Int) (tx : ByteArray) (hkw : (Lit.int .i64 k).wf = true) (htx : tx.size ≤ 140737488355328) (hk : kindI k 10 = 5) (hN : N < 100000000000) :
    Calls Tryz.prog 23 #[.pointer (some ⟨W, 0, none⟩), actV k a tx] w fun e w' => e = .returned (.bool true) ∧ DwEx w0 w' W s d z (N + 9000) := by
  have HK := Lib.hid (fun X => kind_any k 10 X hkw (by omega) (by omega))
  rw [hk] at HK
  have HBD := Lib.hid h.sin.bd
  have HD : Hid (∀ o, Dw w0 (w.alloc o) W s d F z V D N r1 lo1 hi1 R1 r2 lo2 hi2 R2) := fun o => h.made ((Below.refl _ w).alloc (Nat.le_refl _) o)
  have c1 : ∀ o, (w.alloc o).cell? ⟨W, 1, none⟩ = some (.pointer (some ⟨s, 0, none⟩)) := fun o => (HD.out o).cells.2.1
  have c2 : ∀ o, (w.alloc o).cell? ⟨W, 2, none⟩ = some (.pointer (some ⟨r1, 0, none⟩)) := fun o => (HD.out o).cells.2.2.1
  have HP1 := Lib.hid hp1
  have HP2 := Lib.hid hp2
  have HNN := Lib.hid hN
  have HB : Hid (∀ o, _) := fun o => Db.start h o
  have HX : Hid (∀ X F' M, SIn w0 X s d F' z V D M → M < 200000000000 → Calls Tryz.prog 16 #[.pointer (some ⟨s, 0, none⟩), .int .i64 a] X fun e w' => e = .returned (.int .i64 (rMay z R1 a)) ∧ ∃ V', SStp w0 X w' s d F' z V' D (M + 4) ∧ Rep z V' (rRel z R1 a)) := fun X F' M hx hM => by
    have := release_sp hx a (by omega)
    have hr := rep_rel hp1 HBD.out.1 HBD.out.2 (hx.size hx.first) a
    rw [rep_taken hp1 HBD.out.1 HBD.out.2] at this hr
    exact this.mono fun e w' ⟨he, hs⟩ => ⟨he, _, hs, hr⟩
  have HY : Hid (∀ X, RIn X r1 lo1 hi1 z R1 → _) := fun X hx => rrel_any (w := X) hx a
  clear h hp1 hp2 hk hN htx
  unfold actV
  generalize rRel z R1 a = x0 at *
  generalize rMay z R1 a = y0 at *
  go_enter Tryz.func23, Tryz.ntmps23
  go_upto_region 18 with (go_at_call 30; refine (HK.out _).mono ?_; rintro e w' ⟨rfl, rfl⟩)
  have HB1 := Lib.hid ((HB.out (Obj.cells #[.int .i64 k, .int .i64 a, .string tx] 50 (0, 0))).made ((Below.refl _ _).drew))
  obtain ⟨l1, l2, l3, l4⟩ := HB1.out.lds
  clear c1 c2 HB HD HK
  generalize w.alloc (Obj.cells #[.int .i64 k, .int .i64 a, .string tx] 50 (0, 0)) = w1 at *
  go_region_held3 (fun w' => w'.cell? ⟨W, 1, none⟩ = some (.pointer (some ⟨s, 0, none⟩)) ∧ w'.cell? ⟨W, 2, none⟩ = some (.pointer (some ⟨r1, 0, none⟩)) ∧ w'.cell? ⟨w.heap.size, 1, none⟩ = some (.int .i64 a) ∧ w'.cell? ⟨w.heap.size, 2, none⟩ = some (.string tx)) (go_keep)
    (first
    | (go_at_call 16; refine (HX.out _ _ _ HB1.out.dw.sin (by have := HNN.out; omega)).mono ?_; rintro e w2 ⟨rfl, V2, hS, hV2⟩
       have HB2 := Lib.hid (HB1.out.space hS)
       have HV2 := Lib.hid hV2
       obtain ⟨m1, m2, m3, m4⟩ := HB2.out.lds
       clear hS hV2 HX)
    | (go_at_call 60; refine (HY.out _ HB2.out.dw.now).mono ?_; rintro e w4 ⟨rfl, hR, hU⟩
       have HB4 := Lib.hid (HB2.out.ref hR hU)
       obtain ⟨n1, n2, n3, n4⟩ := HB4.out.lds
       clear HY hR hU))
  go_wp2
  go_ret
  exact ⟨rfl, _, _, _, _, _, _, _, _, _, _, _, HB4.out.dw.mono (by omega), HV2.out, HP2.out⟩
end
end Go.Proofs.YtdoankamaobkoaaGreatDoor
