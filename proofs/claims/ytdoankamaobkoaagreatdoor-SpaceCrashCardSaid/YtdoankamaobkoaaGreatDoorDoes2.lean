/- does: an act on both (printed by wip/gen_does.py). -/
import Derived.Test.YtdoankamaobkoaaGreatDoorDoes
set_option linter.unusedSimpArgs false
set_option linter.unusedVariables false
namespace Go.Proofs.YtdoankamaobkoaaGreatDoor
open Go.RowKit Go.Maps Go.Shelf

section
variable {w0 w : World} {W s d : Nat} {F : Nat → Prop} {z N : Int} {V D : Int → ByteArray} {r1 lo1 hi1 r2 lo2 hi2 : Nat} {R1 R2 : Rf}
set_option maxHeartbeats 4000000 in
set_option maxRecDepth 100000 in
theorem does_2 (h : Dw w0 w W s d F z V D N r1 lo1 hi1 R1 r2 lo2 hi2 R2) (hp1 : Rep z V R1) (hp2 : Rep z D R2) (k a : Int) (tx : ByteArray) (hkw : (Lit.int .i64 k).wf = true) (htx : tx.size ≤ 140737488355328) (hk : kindI k 10 = 2) (hN : N < 100000000000) :
    Calls Tryz.prog 23 #[.pointer (some ⟨W, 0, none⟩), actV k a tx] w fun e w' => e = .returned (.bool true) ∧ DwEx w0 w' W s d z (N + 9000) := by
  have HK := Lib.hid (fun X => kind_any k 10 X hkw (by omega) (by omega))
  rw [hk] at HK
  have HBD := Lib.hid h.sin.bd
  have HD : Hid (∀ o, Dw w0 (w.alloc o) W s d F z V D N r1 lo1 hi1 R1 r2 lo2 hi2 R2) := fun o => h.made ((Below.refl _ w).alloc (Nat.le_refl _) o)
  have c1 : ∀ o, (w.alloc o).cell? ⟨W, 1, none⟩ = some (.pointer (some ⟨s, 0, none⟩)) := fun o => (HD.out o).cells.2.1
  have c2 : ∀ o, (w.alloc o).cell? ⟨W, 2, none⟩ = some (.pointer (some ⟨r1, 0, none⟩)) := fun o => (HD.out o).cells.2.2.1
  have HP1 := Lib.hid hp1
  have HP2 := Lib.hid hp2
  have HNN := Lib.hid hN
  have HB : Hid (∀ o, _) := fun o => Db.start h o
  have HX : Hid (∀ X F' M, SIn w0 X s d F' z V D M → M < 200000000000 → Calls Tryz.prog 28 #[.pointer (some ⟨s, 0, none⟩), .int .i64 a, .string tx] X fun e w' => e = .returned (.int .i64 (rPutE z R1 a tx)) ∧ ∃ V', SStp w0 X w' s d F' z V' D (M + 4) ∧ Rep z V' (rPut z R1 a tx)) := fun X F' M hx hM => by
    have := put_sp hx a tx (by omega) (by omega)
    have hr := rep_put hp1 HBD.out.1 HBD.out.2 a tx
    rw [rep_putE hp1 HBD.out.1 HBD.out.2] at this hr
    exact this.mono fun e w' ⟨he, hs⟩ => ⟨he, _, hs, hr⟩
  have HY : Hid (∀ X, RIn X r1 lo1 hi1 z R1 → _) := fun X hx => rput_any (w := X) hx a tx (by omega)
  clear h hp1 hp2 hk hN htx
  unfold actV
  generalize rPut z R1 a tx = x0 at *
  generalize rPutE z R1 a tx = y0 at *
  go_enter Tryz.func23, Tryz.ntmps23
  go_upto_region 11 with (go_at_call 30; refine (HK.out _).mono ?_; rintro e w' ⟨rfl, rfl⟩)
  have HB1 := Lib.hid ((HB.out (Obj.cells #[.int .i64 k, .int .i64 a, .string tx] 50 (0, 0))).made ((Below.refl _ _).drew))
  obtain ⟨l1, l2, l3, l4⟩ := HB1.out.lds
  clear c1 c2 HB HD HK
  generalize w.alloc (Obj.cells #[.int .i64 k, .int .i64 a, .string tx] 50 (0, 0)) = w1 at *
  go_region_held3 (fun w' => w'.cell? ⟨W, 1, none⟩ = some (.pointer (some ⟨s, 0, none⟩)) ∧ w'.cell? ⟨W, 2, none⟩ = some (.pointer (some ⟨r1, 0, none⟩)) ∧ w'.cell? ⟨w.heap.size, 1, none⟩ = some (.int .i64 a) ∧ w'.cell? ⟨w.heap.size, 2, none⟩ = some (.string tx)) (go_keep)
    (first
    | (go_at_call 28; refine (HX.out _ _ _ HB1.out.dw.sin (by have := HNN.out; omega)).mono ?_; rintro e w2 ⟨rfl, V2, hS, hV2⟩
       have HB2 := Lib.hid (HB1.out.space hS)
       have HV2 := Lib.hid hV2
       obtain ⟨m1, m2, m3, m4⟩ := HB2.out.lds
       clear hS hV2 HX)
    | (go_at_call 58; refine (HY.out _ HB2.out.dw.now).mono ?_; rintro e w4 ⟨rfl, hR, hU⟩
       have HB4 := Lib.hid (HB2.out.ref hR hU)
       obtain ⟨n1, n2, n3, n4⟩ := HB4.out.lds
       clear HY hR hU))
  go_wp2
  go_ret
  exact ⟨rfl, _, _, _, _, _, _, _, _, _, _, _, HB4.out.dw.mono (by omega), HV2.out, HP2.out⟩
set_option maxHeartbeats 4000000 in
set_option maxRecDepth 100000 in
theorem does_1 (h : Dw w0 w W s d F z V D N r1 lo1 hi1 R1 r2 lo2 hi2 R2) (hp1 : Rep z V R1) (hp2 : Rep z D R2) (k a : Int) (tx : ByteArray) (hkw : (Lit.int .i64 k).wf = true) (htx : tx.size ≤ 140737488355328) (hk : kindI k 10 = 1) (hN : N < 100000000000) :
    Calls Tryz.prog 23 #[.pointer (some ⟨W, 0, none⟩), actV k a tx] w fun e w' => e = .returned (.bool true) ∧ DwEx w0 w' W s d z (N + 9000) := by
  have HK := Lib.hid (fun X => kind_any k 10 X hkw (by omega) (by omega))
  rw [hk] at HK
  have HBD := Lib.hid h.sin.bd
  have HD : Hid (∀ o, Dw w0 (w.alloc o) W s d F z V D N r1 lo1 hi1 R1 r2 lo2 hi2 R2) := fun o => h.made ((Below.refl _ w).alloc (Nat.le_refl _) o)
  have c1 : ∀ o, (w.alloc o).cell? ⟨W, 1, none⟩ = some (.pointer (some ⟨s, 0, none⟩)) := fun o => (HD.out o).cells.2.1
  have c2 : ∀ o, (w.alloc o).cell? ⟨W, 2, none⟩ = some (.pointer (some ⟨r1, 0, none⟩)) := fun o => (HD.out o).cells.2.2.1
  have HP1 := Lib.hid hp1
  have HP2 := Lib.hid hp2
  have HNN := Lib.hid hN
  have HLG : Hid (∀ X, Calls Tryz.prog 57 #[.string tx, .int .i64 256] X fun e w' => e = .returned (.string (longB tx 256)) ∧ Below X.heap.size X w') := fun X => long_any tx 256 X htx (by omega)
  have hlb := longB_size tx 256
  generalize longB tx 256 = lb at *
  have HB : Hid (∀ o, _) := fun o => Db.start h o
  have HX : Hid (∀ X F' M, SIn w0 X s d F' z V D M → M < 200000000000 → Calls Tryz.prog 28 #[.pointer (some ⟨s, 0, none⟩), .int .i64 a, .string lb] X fun e w' => e = .returned (.int .i64 (rPutE z R1 a lb)) ∧ ∃ V', SStp w0 X w' s d F' z V' D (M + 4) ∧ Rep z V' (rPut z R1 a lb)) := fun X F' M hx hM => by
    have := put_sp hx a lb (by omega) (by omega)
    have hr := rep_put hp1 HBD.out.1 HBD.out.2 a lb
    rw [rep_putE hp1 HBD.out.1 HBD.out.2] at this hr
    exact this.mono fun e w' ⟨he, hs⟩ => ⟨he, _, hs, hr⟩
  have HY : Hid (∀ X, RIn X r1 lo1 hi1 z R1 → _) := fun X hx => rput_any (w := X) hx a lb (by omega)
  clear h hp1 hp2 hk hN htx
  unfold actV
  clear hlb
  generalize rPut z R1 a lb = x0 at *
  generalize rPutE z R1 a lb = y0 at *
  go_enter Tryz.func23, Tryz.ntmps23
  go_upto_region 9 with (go_at_call 30; refine (HK.out _).mono ?_; rintro e w' ⟨rfl, rfl⟩)
  have HB1 := Lib.hid ((HB.out (Obj.cells #[.int .i64 k, .int .i64 a, .string tx] 50 (0, 0))).made ((Below.refl _ _).drew))
  obtain ⟨l1, l2, l3, l4⟩ := HB1.out.lds
  clear c1 c2 HB HD HK
  generalize w.alloc (Obj.cells #[.int .i64 k, .int .i64 a, .string tx] 50 (0, 0)) = w1 at *
  go_region_held3 (fun w' => w'.cell? ⟨W, 1, none⟩ = some (.pointer (some ⟨s, 0, none⟩)) ∧ w'.cell? ⟨W, 2, none⟩ = some (.pointer (some ⟨r1, 0, none⟩)) ∧ w'.cell? ⟨w.heap.size, 1, none⟩ = some (.int .i64 a) ∧ w'.cell? ⟨w.heap.size, 2, none⟩ = some (.string tx)) (go_keep)
    (first
    | (go_at_call 58; refine (HY.out _ HB4.out.dw.now).mono ?_; rintro e w5 ⟨rfl, hR, hU⟩
       have HB5 := Lib.hid (HB4.out.ref hR hU)
       obtain ⟨p1, p2, p3, p4⟩ := HB5.out.lds
       clear HY hR hU)
    | (go_at_call 57; have HB3' := HB3; refine (HLG.out _).mono ?_; rintro e w4 ⟨rfl, hB⟩
       have HB4 := Lib.hid (HB3.out.made hB)
       obtain ⟨o1, o2, o3, o4⟩ := HB4.out.lds
       clear hB HB3')
    | (go_at_call 28; refine (HX.out _ _ _ HB2.out.dw.sin (by have := HNN.out; omega)).mono ?_; rintro e w3 ⟨rfl, V2, hS, hV2⟩
       have HB3 := Lib.hid (HB2.out.space hS)
       have HV2 := Lib.hid hV2
       obtain ⟨n1, n2, n3, n4⟩ := HB3.out.lds
       clear hS hV2 HX)
    | (go_at_call 57; refine (HLG.out _).mono ?_; rintro e w2 ⟨rfl, hB⟩
       have HB2 := Lib.hid (HB1.out.made hB)
       obtain ⟨m1, m2, m3, m4⟩ := HB2.out.lds
       clear hB))
  go_wp2
  go_ret
  exact ⟨rfl, _, _, _, _, _, _, _, _, _, _, _, HB5.out.dw.mono (by omega), HV2.out, HP2.out⟩
set_option maxHeartbeats 4000000 in
set_option maxRecDepth 100000 in
theorem does_8 (h : Dw w0 w W s d F z V D N r1 lo1 hi1 R1 r2 lo2 hi2 R2) (hp1 : Rep z V R1) (hp2 : Rep z D R2) (k a : Int) (tx : ByteArray) (hkw : (Lit.int .i64 k).wf = true) (htx : tx.size ≤ 140737488355328) (hk : kindI k 10 = 8) (hN : N < 100000000000) :
    Calls Tryz.prog 23 #[.pointer (some ⟨W, 0, none⟩), actV k a tx] w fun e w' => e = .returned (.bool true) ∧ DwEx w0 w' W s d z (N + 9000) := by
  have HK := Lib.hid (fun X => kind_any k 10 X hkw (by omega) (by omega))
  rw [hk] at HK
  have HBD := Lib.hid h.sin.bd
  have HD : Hid (∀ o, Dw w0 (w.alloc o) W s d F z V D N r1 lo1 hi1 R1 r2 lo2 hi2 R2) := fun o => h.made ((Below.refl _ w).alloc (Nat.le_refl _) o)
  have c1 : ∀ o, (w.alloc o).cell? ⟨W, 1, none⟩ = some (.pointer (some ⟨s, 0, none⟩)) := fun o => (HD.out o).cells.2.1
  have c2 : ∀ o, (w.alloc o).cell? ⟨W, 2, none⟩ = some (.pointer (some ⟨r1, 0, none⟩)) := fun o => (HD.out o).cells.2.2.1
  have HP1 := Lib.hid hp1
  have HP2 := Lib.hid hp2
  have HNN := Lib.hid hN
  have HLG : Hid (∀ X, Calls Tryz.prog 57 #[.string tx, .int .i64 248] X fun e w' => e = .returned (.string (longB tx 248)) ∧ Below X.heap.size X w') := fun X => long_any tx 248 X htx (by omega)
  have hlb := longB_size tx 248
  generalize longB tx 248 = lb at *
  have HB : Hid (∀ o, _) := fun o => Db.start h o
  have HX : Hid (∀ X F' M V' R' (x : ByteArray), Rep z V' R' → SIn w0 X s d F' z V' D M → M < 200000000000 → x.size ≤ 140737488355328 → Calls Tryz.prog 27 #[.pointer (some ⟨s, 0, none⟩), .string x] X fun e w' => e = .returned (.int .i64 (if x.size = 248 then 0 else 3)) ∧ ∃ V2, SStp w0 X w' s d F' z V2 D M ∧ Rep z V2 (rHead R' x)) := fun X F' M V' R' x hp hx hM hs => by
    have := sethead_sp hx x hs
    have hr := rep_head hp HBD.out.1 HBD.out.2 x
    have he : spSet x = if x.size = 248 then 0 else 3 := by unfold spSet; by_cases e : x.size = 248 <;> simp [e]
    rw [he] at this hr
    exact this.mono fun e w' ⟨he, hs⟩ => ⟨he, _, hs, hr⟩
  have HY : Hid (∀ X R' (x : ByteArray), RIn X r1 lo1 hi1 z R' → x.size ≤ 140737488355328 → _) := fun X R' x hx hs => rhead_any (w := X) (R := R') hx x (by omega)
  have HS1 : Hid (lb.size ≤ 140737488355328) := by show _ ≤ _; omega
  have HS2 : Hid (tx.size ≤ 140737488355328) := htx
  have HX1 : Hid (∀ X F' M, SIn w0 X s d F' z V D M → M < 200000000000 → Calls Tryz.prog 27 #[.pointer (some ⟨s, 0, none⟩), .string lb] X fun e w' => e = .returned (.int .i64 0) ∧ ∃ V2, SStp w0 X w' s d F' z V2 D M ∧ Rep z V2 (rHead R1 lb)) := fun X F' M hx hM => by
    have := HX.out X F' M V R1 lb hp1 hx hM HS1.out
    rwa [if_pos hlb] at this
  have HY1 : Hid (∀ X R', RIn X r1 lo1 hi1 z R' → Calls Tryz.prog 61 #[.pointer (some ⟨r1, 0, none⟩), .string lb] X fun e w' => e = .returned (.int .i64 0) ∧ RIn w' r1 lo1 hi1 z (rHead R' lb) ∧ Upd (seg lo1 hi1) X w') := fun X R' hx => by
    have := HY.out X R' lb hx HS1.out
    rwa [if_pos hlb] at this
  obtain ⟨c, HC⟩ : ∃ c : Int, Hid ((if tx.size = 248 then 0 else 3) = c) := ⟨_, Lib.hid rfl⟩
  have HX2 : Hid (∀ X F' M V', Rep z V' (rHead R1 lb) → SIn w0 X s d F' z V' D M → M < 200000000000 → Calls Tryz.prog 27 #[.pointer (some ⟨s, 0, none⟩), .string tx] X fun e w' => e = .returned (.int .i64 c) ∧ ∃ V2, SStp w0 X w' s d F' z V2 D M ∧ Rep z V2 (rHead (rHead R1 lb) tx)) := fun X F' M V' hp hx hM => by
    have := HX.out X F' M V' _ tx hp hx hM HS2.out
    rwa [HC.out] at this
  have HY2 : Hid (∀ X R', RIn X r1 lo1 hi1 z R' → Calls Tryz.prog 61 #[.pointer (some ⟨r1, 0, none⟩), .string tx] X fun e w' => e = .returned (.int .i64 c) ∧ RIn w' r1 lo1 hi1 z (rHead R' tx) ∧ Upd (seg lo1 hi1) X w') := fun X R' hx => by
    have := HY.out X R' tx hx HS2.out
    rwa [HC.out] at this
  clear h hp1 hp2 hk hN htx
  unfold actV
  clear hlb HX HY HC HS1 HS2
  go_enter Tryz.func23, Tryz.ntmps23
  go_upto_region 26 with (go_at_call 30; refine (HK.out _).mono ?_; rintro e w' ⟨rfl, rfl⟩)
  have HB1 := Lib.hid ((HB.out (Obj.cells #[.int .i64 k, .int .i64 a, .string tx] 50 (0, 0))).made ((Below.refl _ _).drew))
  obtain ⟨l1, l2, l3, l4⟩ := HB1.out.lds
  clear c1 c2 HB HD HK
  generalize w.alloc (Obj.cells #[.int .i64 k, .int .i64 a, .string tx] 50 (0, 0)) = w1 at *
  go_region_held3 (fun w' => w'.cell? ⟨W, 1, none⟩ = some (.pointer (some ⟨s, 0, none⟩)) ∧ w'.cell? ⟨W, 2, none⟩ = some (.pointer (some ⟨r1, 0, none⟩)) ∧ w'.cell? ⟨w.heap.size, 1, none⟩ = some (.int .i64 a) ∧ w'.cell? ⟨w.heap.size, 2, none⟩ = some (.string tx)) (go_keep)
    (first
    | (go_at_call 61; refine (HY2.out _ _ HB6.out.dw.now).mono ?_; rintro e w7 ⟨rfl, hR, hU⟩
       have HB7 := Lib.hid (HB6.out.ref hR hU)
       obtain ⟨t1, t2, t3, t4⟩ := HB7.out.lds
       clear hR hU)
    | (go_at_call 27; refine (HX2.out _ _ _ _ HV3.out HB5.out.dw.sin (by have := HNN.out; omega)).mono ?_; rintro e w6 ⟨rfl, V6, hS, hV6⟩
       have HB6 := Lib.hid (HB5.out.space hS)
       have HV6 := Lib.hid hV6
       obtain ⟨q1, q2, q3, q4⟩ := HB6.out.lds
       clear hS hV6)
    | (go_at_call 61; refine (HY1.out _ _ HB4.out.dw.now).mono ?_; rintro e w5 ⟨rfl, hR, hU⟩
       have HB5 := Lib.hid (HB4.out.ref hR hU)
       obtain ⟨p1, p2, p3, p4⟩ := HB5.out.lds
       clear hR hU)
    | (go_at_call 57; have HB3' := HB3; refine (HLG.out _).mono ?_; rintro e w4 ⟨rfl, hB⟩
       have HB4 := Lib.hid (HB3.out.made hB)
       obtain ⟨o1, o2, o3, o4⟩ := HB4.out.lds
       clear hB HB3')
    | (go_at_call 27; refine (HX1.out _ _ _ HB2.out.dw.sin (by have := HNN.out; omega)).mono ?_; rintro e w3 ⟨rfl, V2, hS, hV2⟩
       have HB3 := Lib.hid (HB2.out.space hS)
       have HV3 := Lib.hid hV2
       obtain ⟨n1, n2, n3, n4⟩ := HB3.out.lds
       clear hS hV2)
    | (go_at_call 57; refine (HLG.out _).mono ?_; rintro e w2 ⟨rfl, hB⟩
       have HB2 := Lib.hid (HB1.out.made hB)
       obtain ⟨m1, m2, m3, m4⟩ := HB2.out.lds
       clear hB))
  go_wp2
  go_ret
  exact ⟨rfl, _, _, _, _, _, _, _, _, _, _, _, HB7.out.dw.mono (by omega), HV6.out, HP2.out⟩
end
end Go.Proofs.YtdoankamaobkoaaGreatDoor
