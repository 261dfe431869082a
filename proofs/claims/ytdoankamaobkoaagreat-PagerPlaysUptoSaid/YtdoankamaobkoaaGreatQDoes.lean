/- does: an act on both (printed by wip/gen_qdoes.py). -/
import Derived.Test.YtdoankamaobkoaaGreatQTd
import Derived.Deep.RegionHeld3
set_option linter.unusedSimpArgs false
set_option linter.unusedVariables false
namespace Go.Proofs.YtdoankamaobkoaaGreat
open Go.RowKit Go.Maps Go.Shelf

def qactV (k a : Int) (tx : ByteArray) : Value := .agg #[.int .i64 k, .int .i64 a, .string tx]
section
variable {w0 w : World} {p d r x : Nat} {F G : Nat → Prop} {S : Pgr} {L : List (Int × Pg)} {K : Int}
set_option maxHeartbeats 4000000 in
set_option maxRecDepth 100000 in
theorem qdoes_0 (h : Tz w0 w p d r x F G S L) (hb : Bnd S K) (hK0 : 0 ≤ K) (hK : K ≤ 500000000000) (k a : Int) (tx : ByteArray) (hkw : (Lit.int .i64 k).wf = true) (haw : (Lit.int .i64 a).wf = true) (htx : tx.size ≤ 140737488355328) (hk : kindI k 9 = 0) :
    Calls Tryz.prog 24 #[.pointer (some ⟨d, 0, none⟩), .pointer (some ⟨p, 0, none⟩), .pointer (some ⟨r, 0, none⟩), qactV k a tx] w fun e w' => e = .returned (.bool true) ∧ TzEx w0 w' p d r x 0 (K + 30000) := by
  have HK := Lib.hid (fun X => kind_any k 9 X hkw (by omega) (by omega))
  rw [hk] at HK
  have hok := h.pin.ok
  have HB0 := Lib.hid (h.box (Obj.cells #[.int .i64 k, .int .i64 a, .string tx] 34 (0, 0)))
  obtain ⟨l1, l2⟩ := HB0.out.lds
  have hX := HB0.out.load hb (by omega) a haw
  have HY : Hid (∀ X F' G', Tb w0 X p d r x F' G' (S.load a).2 S L w.heap.size (Obj.cells #[.int .i64 k, .int .i64 a, .string tx] 34 (0, 0)) → _) := fun X F' G' ht => ht.qload hok hb (by omega) a
  have HBN := Lib.hid (hb.load (i := a) hK0)
  generalize (S.load a).1.1 = g0 at *
  generalize (S.load a).1.2 = g1 at *
  generalize (S.load a).2 = g2 at *
  clear h hb hk hok
  unfold qactV
  clear l1 l2
  go_enter Tryz.func24, Tryz.ntmps24
  go_wp2_with (go_at_call 11; refine (HK.out _).mono ?_; rintro e w' ⟨rfl, rfl⟩)
  refine hX.mono ?_
  rintro e w1 ⟨rfl, ht⟩
  have HT1 := Lib.hid ht
  obtain ⟨m1, m2⟩ := ht.lds
  clear ht hX HB0 HK
  go_wp2_with fail
  refine (HY.out _ _ _ HT1.out).mono ?_
  rintro e w2 ⟨rfl, L2, ht2⟩
  have HT2 := Lib.hid ht2
  clear ht2 HY HT1 m1 m2
  go_wp2
  go_ret
  exact ⟨rfl, _, _, _, _, HT2.out.tz, HBN.out.mono (by omega)⟩
set_option maxHeartbeats 4000000 in
set_option maxRecDepth 100000 in
theorem qdoes_1 (h : Tz w0 w p d r x F G S L) (hb : Bnd S K) (hK0 : 0 ≤ K) (hK : K ≤ 500000000000) (k a : Int) (tx : ByteArray) (hkw : (Lit.int .i64 k).wf = true) (haw : (Lit.int .i64 a).wf = true) (htx : tx.size ≤ 140737488355328) (hk : kindI k 9 = 1) :
    Calls Tryz.prog 24 #[.pointer (some ⟨d, 0, none⟩), .pointer (some ⟨p, 0, none⟩), .pointer (some ⟨r, 0, none⟩), qactV k a tx] w fun e w' => e = .returned (.bool true) ∧ TzEx w0 w' p d r x 0 (K + 30000) := by
  have HK := Lib.hid (fun X => kind_any k 9 X hkw (by omega) (by omega))
  rw [hk] at HK
  have hok := h.pin.ok
  have HB0 := Lib.hid (h.box (Obj.cells #[.int .i64 k, .int .i64 a, .string tx] 34 (0, 0)))
  obtain ⟨l1, l2⟩ := HB0.out.lds
  have hX := HB0.out.load hb (by omega) a haw
  have HY : Hid (∀ X F' G', Tb w0 X p d r x F' G' (S.load a).2 S L w.heap.size (Obj.cells #[.int .i64 k, .int .i64 a, .string tx] 34 (0, 0)) → _) := fun X F' G' ht => ht.qload hok hb (by omega) a
  have HBN := Lib.hid (hb.load (i := a) hK0)
  generalize (S.load a).1.1 = g0 at *
  generalize (S.load a).1.2 = g1 at *
  generalize (S.load a).2 = g2 at *
  clear h hb hk hok
  unfold qactV
  clear l1 l2
  go_enter Tryz.func24, Tryz.ntmps24
  go_wp2_with (go_at_call 11; refine (HK.out _).mono ?_; rintro e w' ⟨rfl, rfl⟩)
  refine hX.mono ?_
  rintro e w1 ⟨rfl, ht⟩
  have HT1 := Lib.hid ht
  obtain ⟨m1, m2⟩ := ht.lds
  clear ht hX HB0 HK
  go_wp2_with fail
  refine (HY.out _ _ _ HT1.out).mono ?_
  rintro e w2 ⟨rfl, L2, ht2⟩
  have HT2 := Lib.hid ht2
  clear ht2 HY HT1 m1 m2
  go_wp2
  go_ret
  exact ⟨rfl, _, _, _, _, HT2.out.tz, HBN.out.mono (by omega)⟩
set_option maxHeartbeats 4000000 in
set_option maxRecDepth 100000 in
theorem qdoes_2 (h : Tz w0 w p d r x F G S L) (hb : Bnd S K) (hK0 : 0 ≤ K) (hK : K ≤ 500000000000) (k a : Int) (tx : ByteArray) (hkw : (Lit.int .i64 k).wf = true) (haw : (Lit.int .i64 a).wf = true) (htx : tx.size ≤ 140737488355328) (hk : kindI k 9 = 2) :
    Calls Tryz.prog 24 #[.pointer (some ⟨d, 0, none⟩), .pointer (some ⟨p, 0, none⟩), .pointer (some ⟨r, 0, none⟩), qactV k a tx] w fun e w' => e = .returned (.bool true) ∧ TzEx w0 w' p d r x 0 (K + 30000) := by
  have HK := Lib.hid (fun X => kind_any k 9 X hkw (by omega) (by omega))
  rw [hk] at HK
  have hok := h.pin.ok
  have HB0 := Lib.hid (h.box (Obj.cells #[.int .i64 k, .int .i64 a, .string tx] 34 (0, 0)))
  obtain ⟨l1, l2⟩ := HB0.out.lds
  have HBL : Hid (∀ X, Calls Tryz.prog 12 #[.string tx] X fun e w' => e = .returned (.string (blockB tx)) ∧ Below X.heap.size X w') := fun X => block_any tx X (by omega)
  have hbs : (blockB tx).size ≤ 140737488355328 := by rw [blockB_size]; omega
  generalize blockB tx = bt at *
  have HX : Hid (∀ X F' G', Tb w0 X p d r x F' G' S S L w.heap.size (Obj.cells #[.int .i64 k, .int .i64 a, .string tx] 34 (0, 0)) → _) := fun X F' G' ht => ht.store a haw bt hbs
  have HY : Hid (∀ X F' G', Tb w0 X p d r x F' G' (S.store a bt).2 S L w.heap.size (Obj.cells #[.int .i64 k, .int .i64 a, .string tx] 34 (0, 0)) → _) := fun X F' G' ht => ht.qstore hok a bt hbs
  have HBN := Lib.hid (hb.store (i := a) bt)
  generalize (S.store a bt).1 = g0 at *
  generalize (S.store a bt).2 = g1 at *
  clear h hb hk hok
  unfold qactV
  go_enter Tryz.func24, Tryz.ntmps24
  go_upto_region 10 with (go_at_call 11; refine (HK.out _).mono ?_; rintro e w' ⟨rfl, rfl⟩)
  have HB1 := Lib.hid (HB0.out.made ((Below.refl _ _).drew))
  obtain ⟨m1, m2⟩ := HB1.out.lds
  clear HB0 HK l1 l2
  generalize w.alloc (Obj.cells #[.int .i64 k, .int .i64 a, .string tx] 34 (0, 0)) = w1 at *
  go_region_held3 (fun w' => w'.cell? ⟨w.heap.size, 1, none⟩ = some (.int .i64 a) ∧ w'.cell? ⟨w.heap.size, 2, none⟩ = some (.string tx)) (go_keep)
    (first
    | (go_at_call 46; refine (HY.out _ _ _ HB4.out).mono ?_; rintro e w5 ⟨rfl, L5, ht5⟩
       have HB5 := Lib.hid ht5
       obtain ⟨s1, s2⟩ := ht5.lds
       clear ht5 HY)
    | (go_at_call 12; have HB3' := HB3; refine (HBL.out _).mono ?_; rintro e w4 ⟨rfl, hB⟩
       have HB4 := Lib.hid (HB3.out.made hB)
       obtain ⟨p1, p2⟩ := HB4.out.lds
       clear hB HB3')
    | (go_at_call 10; refine (HX.out _ _ _ HB2.out).mono ?_; rintro e w3 ⟨rfl, ht⟩
       have HB3 := Lib.hid ht
       obtain ⟨o1, o2⟩ := ht.lds
       clear ht HX)
    | (go_at_call 12; refine (HBL.out _).mono ?_; rintro e w2 ⟨rfl, hB⟩
       have HB2 := Lib.hid (HB1.out.made hB)
       obtain ⟨n1, n2⟩ := HB2.out.lds
       clear hB))
  go_wp2
  go_ret
  exact ⟨rfl, _, _, _, _, HB5.out.tz, HBN.out.mono (by omega)⟩
set_option maxHeartbeats 4000000 in
set_option maxRecDepth 100000 in
theorem qdoes_3 (h : Tz w0 w p d r x F G S L) (hb : Bnd S K) (hK0 : 0 ≤ K) (hK : K ≤ 500000000000) (k a : Int) (tx : ByteArray) (hkw : (Lit.int .i64 k).wf = true) (haw : (Lit.int .i64 a).wf = true) (htx : tx.size ≤ 140737488355328) (hk : kindI k 9 = 3) :
    Calls Tryz.prog 24 #[.pointer (some ⟨d, 0, none⟩), .pointer (some ⟨p, 0, none⟩), .pointer (some ⟨r, 0, none⟩), qactV k a tx] w fun e w' => e = .returned (.bool true) ∧ TzEx w0 w' p d r x 0 (K + 30000) := by
  have HK := Lib.hid (fun X => kind_any k 9 X hkw (by omega) (by omega))
  rw [hk] at HK
  have hok := h.pin.ok
  have HB0 := Lib.hid (h.box (Obj.cells #[.int .i64 k, .int .i64 a, .string tx] 34 (0, 0)))
  obtain ⟨l1, l2⟩ := HB0.out.lds
  have HX : Hid (∀ X F' G', Tb w0 X p d r x F' G' S S L w.heap.size (Obj.cells #[.int .i64 k, .int .i64 a, .string tx] 34 (0, 0)) → _) := fun X F' G' ht => ht.store a haw tx htx
  have HY : Hid (∀ X F' G', Tb w0 X p d r x F' G' (S.store a tx).2 S L w.heap.size (Obj.cells #[.int .i64 k, .int .i64 a, .string tx] 34 (0, 0)) → _) := fun X F' G' ht => ht.qstore hok a tx htx
  have HBN := Lib.hid (hb.store (i := a) tx)
  generalize (S.store a tx).1 = g0 at *
  generalize (S.store a tx).2 = g1 at *
  clear h hb hk hok
  unfold qactV
  go_enter Tryz.func24, Tryz.ntmps24
  go_upto_region 12 with (go_at_call 11; refine (HK.out _).mono ?_; rintro e w' ⟨rfl, rfl⟩)
  have HB1 := Lib.hid (HB0.out.made ((Below.refl _ _).drew))
  obtain ⟨m1, m2⟩ := HB1.out.lds
  clear HB0 HK l1 l2
  generalize w.alloc (Obj.cells #[.int .i64 k, .int .i64 a, .string tx] 34 (0, 0)) = w1 at *
  go_region_held3 (fun w' => w'.cell? ⟨w.heap.size, 1, none⟩ = some (.int .i64 a) ∧ w'.cell? ⟨w.heap.size, 2, none⟩ = some (.string tx)) (go_keep)
    (first
    | (go_at_call 10; refine (HX.out _ _ _ HB1.out).mono ?_; rintro e w2 ⟨rfl, ht⟩
       have HB2 := Lib.hid ht
       obtain ⟨n1, n2⟩ := ht.lds
       clear ht HX)
    | (go_at_call 46; refine (HY.out _ _ _ HB2.out).mono ?_; rintro e w3 ⟨rfl, L3, ht3⟩
       have HB3 := Lib.hid ht3
       obtain ⟨o1, o2⟩ := ht3.lds
       clear ht3 HY))
  go_wp2
  go_ret
  exact ⟨rfl, _, _, _, _, HB3.out.tz, HBN.out.mono (by omega)⟩
set_option maxHeartbeats 4000000 in
set_option maxRecDepth 100000 in
theorem qdoes_4 (h : Tz w0 w p d r x F G S L) (hb : Bnd S K) (hK0 : 0 ≤ K) (hK : K ≤ 500000000000) (k a : Int) (tx : ByteArray) (hkw : (Lit.int .i64 k).wf = true) (haw : (Lit.int .i64 a).wf = true) (htx : tx.size ≤ 140737488355328) (hk : kindI k 9 = 4) :
    Calls Tryz.prog 24 #[.pointer (some ⟨d, 0, none⟩), .pointer (some ⟨p, 0, none⟩), .pointer (some ⟨r, 0, none⟩), qactV k a tx] w fun e w' => e = .returned (.bool true) ∧ TzEx w0 w' p d r x 0 (K + 30000) := by
  have HK := Lib.hid (fun X => kind_any k 9 X hkw (by omega) (by omega))
  rw [hk] at HK
  have hok := h.pin.ok
  have HB0 := Lib.hid (h.box (Obj.cells #[.int .i64 k, .int .i64 a, .string tx] 34 (0, 0)))
  obtain ⟨l1, l2⟩ := HB0.out.lds
  have HX : Hid (∀ X F' G', Tb w0 X p d r x F' G' S S L w.heap.size (Obj.cells #[.int .i64 k, .int .i64 a, .string tx] 34 (0, 0)) → _) := fun X F' G' ht => ht.pin_ hb (by omega) a haw
  have HY : Hid (∀ X F' G', Tb w0 X p d r x F' G' (S.pin a).2 S L w.heap.size (Obj.cells #[.int .i64 k, .int .i64 a, .string tx] 34 (0, 0)) → _) := fun X F' G' ht => ht.qpin hok hb (by omega) a
  have HBN := Lib.hid (hb.pin (i := a) hK0)
  generalize (S.pin a).1 = g0 at *
  generalize (S.pin a).2 = g1 at *
  clear h hb hk hok
  unfold qactV
  go_enter Tryz.func24, Tryz.ntmps24
  go_upto_region 14 with (go_at_call 11; refine (HK.out _).mono ?_; rintro e w' ⟨rfl, rfl⟩)
  have HB1 := Lib.hid (HB0.out.made ((Below.refl _ _).drew))
  obtain ⟨m1, m2⟩ := HB1.out.lds
  clear HB0 HK l1 l2
  generalize w.alloc (Obj.cells #[.int .i64 k, .int .i64 a, .string tx] 34 (0, 0)) = w1 at *
  go_region_held3 (fun w' => w'.cell? ⟨w.heap.size, 1, none⟩ = some (.int .i64 a) ∧ w'.cell? ⟨w.heap.size, 2, none⟩ = some (.string tx)) (go_keep)
    (first
    | (go_at_call 19; refine (HX.out _ _ _ HB1.out).mono ?_; rintro e w2 ⟨rfl, ht⟩
       have HB2 := Lib.hid ht
       obtain ⟨n1, n2⟩ := ht.lds
       clear ht HX)
    | (go_at_call 47; refine (HY.out _ _ _ HB2.out).mono ?_; rintro e w3 ⟨rfl, L3, ht3⟩
       have HB3 := Lib.hid ht3
       obtain ⟨o1, o2⟩ := ht3.lds
       clear ht3 HY))
  go_wp2
  go_ret
  exact ⟨rfl, _, _, _, _, HB3.out.tz, HBN.out.mono (by omega)⟩
set_option maxHeartbeats 4000000 in
set_option maxRecDepth 100000 in
theorem qdoes_5 (h : Tz w0 w p d r x F G S L) (hb : Bnd S K) (hK0 : 0 ≤ K) (hK : K ≤ 500000000000) (k a : Int) (tx : ByteArray) (hkw : (Lit.int .i64 k).wf = true) (haw : (Lit.int .i64 a).wf = true) (htx : tx.size ≤ 140737488355328) (hk : kindI k 9 = 5) :
    Calls Tryz.prog 24 #[.pointer (some ⟨d, 0, none⟩), .pointer (some ⟨p, 0, none⟩), .pointer (some ⟨r, 0, none⟩), qactV k a tx] w fun e w' => e = .returned (.bool true) ∧ TzEx w0 w' p d r x 0 (K + 30000) := by
  have HK := Lib.hid (fun X => kind_any k 9 X hkw (by omega) (by omega))
  rw [hk] at HK
  have hok := h.pin.ok
  have HB0 := Lib.hid (h.box (Obj.cells #[.int .i64 k, .int .i64 a, .string tx] 34 (0, 0)))
  obtain ⟨l1, l2⟩ := HB0.out.lds
  have HX : Hid (∀ X F' G', Tb w0 X p d r x F' G' S S L w.heap.size (Obj.cells #[.int .i64 k, .int .i64 a, .string tx] 34 (0, 0)) → _) := fun X F' G' ht => ht.unpin hb (by omega) a haw
  have HY : Hid (∀ X F' G', Tb w0 X p d r x F' G' (S.unpin a).2 S L w.heap.size (Obj.cells #[.int .i64 k, .int .i64 a, .string tx] 34 (0, 0)) → _) := fun X F' G' ht => ht.qunpin hok hb (by omega) a
  have HBN := Lib.hid (hb.unpin (i := a))
  generalize (S.unpin a).1 = g0 at *
  generalize (S.unpin a).2 = g1 at *
  clear h hb hk hok
  unfold qactV
  go_enter Tryz.func24, Tryz.ntmps24
  go_upto_region 16 with (go_at_call 11; refine (HK.out _).mono ?_; rintro e w' ⟨rfl, rfl⟩)
  have HB1 := Lib.hid (HB0.out.made ((Below.refl _ _).drew))
  obtain ⟨m1, m2⟩ := HB1.out.lds
  clear HB0 HK l1 l2
  generalize w.alloc (Obj.cells #[.int .i64 k, .int .i64 a, .string tx] 34 (0, 0)) = w1 at *
  go_region_held3 (fun w' => w'.cell? ⟨w.heap.size, 1, none⟩ = some (.int .i64 a) ∧ w'.cell? ⟨w.heap.size, 2, none⟩ = some (.string tx)) (go_keep)
    (first
    | (go_at_call 20; refine (HX.out _ _ _ HB1.out).mono ?_; rintro e w2 ⟨rfl, ht⟩
       have HB2 := Lib.hid ht
       obtain ⟨n1, n2⟩ := ht.lds
       clear ht HX)
    | (go_at_call 48; refine (HY.out _ _ _ HB2.out).mono ?_; rintro e w3 ⟨rfl, L3, ht3⟩
       have HB3 := Lib.hid ht3
       obtain ⟨o1, o2⟩ := ht3.lds
       clear ht3 HY))
  go_wp2
  go_ret
  exact ⟨rfl, _, _, _, _, HB3.out.tz, HBN.out.mono (by omega)⟩
set_option maxHeartbeats 4000000 in
set_option maxRecDepth 100000 in
theorem qdoes_6 (h : Tz w0 w p d r x F G S L) (hb : Bnd S K) (hK0 : 0 ≤ K) (hK : K ≤ 500000000000) (k a : Int) (tx : ByteArray) (hkw : (Lit.int .i64 k).wf = true) (haw : (Lit.int .i64 a).wf = true) (htx : tx.size ≤ 140737488355328) (hk : kindI k 9 = 6) :
    Calls Tryz.prog 24 #[.pointer (some ⟨d, 0, none⟩), .pointer (some ⟨p, 0, none⟩), .pointer (some ⟨r, 0, none⟩), qactV k a tx] w fun e w' => e = .returned (.bool true) ∧ TzEx w0 w' p d r x 0 (K + 30000) := by
  have HK := Lib.hid (fun X => kind_any k 9 X hkw (by omega) (by omega))
  rw [hk] at HK
  have hok := h.pin.ok
  have HB0 := Lib.hid (h.box (Obj.cells #[.int .i64 k, .int .i64 a, .string tx] 34 (0, 0)))
  obtain ⟨l1, l2⟩ := HB0.out.lds
  have hX := HB0.out.commit hb (by omega)
  have HY : Hid (∀ X F' G', Tb w0 X p d r x F' G' S.commit.2 S L w.heap.size (Obj.cells #[.int .i64 k, .int .i64 a, .string tx] 34 (0, 0)) → _) := fun X F' G' ht => ht.qcommit hok hb (by omega)
  have HBN := Lib.hid (hb.commit hK0 hok)
  generalize S.commit.1 = g0 at *
  generalize S.commit.2 = g1 at *
  clear h hb hk hok
  unfold qactV
  clear l1 l2
  go_enter Tryz.func24, Tryz.ntmps24
  go_wp2_with (go_at_call 11; refine (HK.out _).mono ?_; rintro e w' ⟨rfl, rfl⟩)
  refine hX.mono ?_
  rintro e w1 ⟨rfl, ht⟩
  have HT1 := Lib.hid ht
  obtain ⟨m1, m2⟩ := ht.lds
  clear ht hX HB0 HK
  go_wp2_with fail
  refine (HY.out _ _ _ HT1.out).mono ?_
  rintro e w2 ⟨rfl, L2, ht2⟩
  have HT2 := Lib.hid ht2
  clear ht2 HY HT1 m1 m2
  go_wp2
  go_ret
  exact ⟨rfl, _, _, _, _, HT2.out.tz, HBN.out.mono (by omega)⟩
set_option maxHeartbeats 4000000 in
set_option maxRecDepth 100000 in
theorem qdoes_7 (h : Tz w0 w p d r x F G S L) (hb : Bnd S K) (hK0 : 0 ≤ K) (hK : K ≤ 500000000000) (k a : Int) (tx : ByteArray) (hkw : (Lit.int .i64 k).wf = true) (haw : (Lit.int .i64 a).wf = true) (htx : tx.size ≤ 140737488355328) (hk : kindI k 9 = 7) :
    Calls Tryz.prog 24 #[.pointer (some ⟨d, 0, none⟩), .pointer (some ⟨p, 0, none⟩), .pointer (some ⟨r, 0, none⟩), qactV k a tx] w fun e w' => e = .returned (.bool true) ∧ TzEx w0 w' p d r x 0 (K + 30000) := by
  have HK := Lib.hid (fun X => kind_any k 9 X hkw (by omega) (by omega))
  rw [hk] at HK
  have hok := h.pin.ok
  have HB0 := Lib.hid (h.box (Obj.cells #[.int .i64 k, .int .i64 a, .string tx] 34 (0, 0)))
  obtain ⟨l1, l2⟩ := HB0.out.lds
  have hX := HB0.out.undo
  have HBN := Lib.hid hb.undo
  clear h hb hk hok
  unfold qactV
  clear l1 l2
  go_enter Tryz.func24, Tryz.ntmps24
  go_wp2_with (go_at_call 11; refine (HK.out _).mono ?_; rintro e w' ⟨rfl, rfl⟩)
  refine hX.mono ?_
  rintro e w1 ⟨rfl, ht⟩
  have HT1 := Lib.hid ht
  obtain ⟨-, ⟨cv, c3⟩, f3, -⟩ := ht.sees
  clear ht hX HB0 HK
  go_wp2
  go_ret
  exact ⟨rfl, _, _, _, _, HT1.out.qundo.tz, HBN.out.mono (by omega)⟩
set_option maxHeartbeats 4000000 in
set_option maxRecDepth 100000 in
theorem qdoes_8 (h : Tz w0 w p d r x F G S L) (hb : Bnd S K) (hK0 : 0 ≤ K) (hK : K ≤ 500000000000) (k a : Int) (tx : ByteArray) (hkw : (Lit.int .i64 k).wf = true) (haw : (Lit.int .i64 a).wf = true) (htx : tx.size ≤ 140737488355328) (hk : kindI k 9 = 8) :
    Calls Tryz.prog 24 #[.pointer (some ⟨d, 0, none⟩), .pointer (some ⟨p, 0, none⟩), .pointer (some ⟨r, 0, none⟩), qactV k a tx] w fun e w' => e = .returned (.bool true) ∧ TzEx w0 w' p d r x 0 (K + 30000) := by
  have HK := Lib.hid (fun X => kind_any k 9 X hkw (by omega) (by omega))
  rw [hk] at HK
  have hok := h.pin.ok
  have HB0 := Lib.hid (h.box (Obj.cells #[.int .i64 k, .int .i64 a, .string tx] 34 (0, 0)))
  obtain ⟨l1, l2⟩ := HB0.out.lds
  have hX := HB0.out.cut a
  have HY : Hid (∀ X F' G', Tb w0 X p d r x F' G' { S with disk := S.disk.cut a } S L w.heap.size (Obj.cells #[.int .i64 k, .int .i64 a, .string tx] 34 (0, 0)) → _) := fun X F' G' ht => ht.qcut a
  have HBN := Lib.hid (hb.cut haw)
  clear h hb hk hok
  unfold qactV
  clear l1 l2
  go_enter Tryz.func24, Tryz.ntmps24
  go_upto_region 3 with (first
    | (go_at_call 11; refine (HK.out _).mono ?_; rintro e w' ⟨rfl, rfl⟩)
    | (go_at_call 50; refine hX.mono ?_; rintro e w1 ⟨rfl, ht⟩))
  have HT1 := Lib.hid (ht.made ((Below.refl _ _).drew))
  obtain ⟨m1, m2⟩ := HT1.out.lds
  obtain ⟨c0, -, -, -⟩ := HT1.out.sees
  clear ht hX HB0 HK
  go_region_law (go_simp; go_at_call 51; refine (HY.out _ _ _ HT1.out).mono ?_; rintro e w2 ⟨rfl, ht2⟩)
  all_goals
    have HT2 := Lib.hid ht2
    clear ht2 HY HT1 m1 m2 c0
    go_wp2
    go_ret
    exact ⟨rfl, _, _, _, _, HT2.out.tz, HBN.out.mono (by omega)⟩
end
end Go.Proofs.YtdoankamaobkoaaGreat
