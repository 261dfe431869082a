/- A space: Head, SetHead, Commit, Undo, Taken, Free. -/
import Derived.Test.YtdoankamaobkoaaGreatDoorSp3
import Derived.Test.YtdoankamaobkoaaGreatDoorOne
set_option linter.unusedSimpArgs false
set_option linter.unusedVariables false
namespace Go.Proofs.YtdoankamaobkoaaGreatDoor
open Go.RowKit Go.Maps Go.Shelf

section
variable {w0 w : World} {s d : Nat} {F : Nat → Prop} {n N : Int} {V D : Int → ByteArray}
set_option maxRecDepth 100000 in
theorem head_sp (h : SIn w0 w s d F n V D N) (hN : N < 2305843009213693000) :
    Calls Tryz.prog 25 #[.pointer (some ⟨s, 0, none⟩)] w fun e w' => e = .returned (.tuple #[.string ((V 0).extract 8 256), .int .i64 0]) ∧ SStp w0 w w' s d F n V D (N + 2) := by
  have HL := Lib.hid (load_sp h (page_zero n) (by omega))
  have hx := h.size (page_zero n)
  clear h
  generalize V 0 = x at *
  go_enter Tryz.func25, Tryz.ntmps25
  go_wp2_with fail
  refine HL.out.mono ?_
  rintro e w1 ⟨rfl, hS⟩
  have HS := Lib.hid hS
  clear hS HL
  go_wp2
  go_ret2
  exact ⟨rfl, HS.out⟩

/-- what SetHead answers -/
def spSet (x : ByteArray) : Int := if x.size ≠ 248 then 3 else 0
set_option maxHeartbeats 1000000 in
set_option maxRecDepth 100000 in
theorem sethead_sp (h : SIn w0 w s d F n V D N) (x : ByteArray) (hx : x.size ≤ 140737488355328) :
    Calls Tryz.prog 27 #[.pointer (some ⟨s, 0, none⟩), .string x] w fun e w' =>
      e = .returned (.int .i64 (spSet x)) ∧ SStp w0 w w' s d F n (if spSet x = 0 then upd V 0 (spName n ++ x) else V) D N := by
  have H := Lib.hid h
  by_cases hz : x.size = 248
  · have e1 : spSet x = 0 := by unfold spSet; rw [if_neg (by omega)]
    rw [e1, if_pos rfl]
    have hbd := h.bd
    have HNm := Lib.hid (sname_any s n w h.cell0 hbd.1 hbd.2)
    have HSZ : Hid ((spName n ++ x).size = 256) := by show _ = _; rw [ByteArray.size_append, spName_size]; omega
    have hz' : (x.size : Int) ≤ 248 ∧ 248 ≤ (x.size : Int) := by omega
    have hzb : ((x.size : Int) != 248) = false := by simp; omega
    have HSN := spName_size n
    clear h e1
    have HZ := Lib.hid hz
    clear hz
    generalize spName n = nm at *
    go_enter Tryz.func27, Tryz.ntmps27
    go_wp2_with fail
    refine HNm.out.mono ?_
    rintro e w1 ⟨rfl, hB⟩
    have HS1 := Lib.hid (H.out.made hB)
    have HB := Lib.hid hB
    have HL := Lib.hid (store_sp HS1.out (page_zero n) (nm ++ x) HSZ.out)
    clear hB HNm
    go_wp2_with fail
    refine HL.out.mono ?_
    rintro e w2 ⟨rfl, hS2⟩
    have HS2 := Lib.hid hS2
    have HNm := Lib.hid (number_any .nilIface 0 w2 (.inl ⟨rfl, rfl⟩) hS2.sin.globW)
    clear hS2 HL
    go_wp2_with fail
    refine HNm.out.mono ?_
    rintro e w3 ⟨rfl, hB⟩
    have HB3 := Lib.hid hB
    clear hB HNm
    go_wp2
    go_ret
    exact ⟨rfl, SStp.after H.out HB.out (SStp.made HS1.out HS2.out HB3.out)⟩
  · have e1 : spSet x = 3 := by unfold spSet; rw [if_pos hz]
    rw [e1, if_neg (by omega)]
    have hzb : ((x.size : Int) != 248) = true := by simp; omega
    clear h e1 hz
    go_enter Tryz.func27, Tryz.ntmps27
    go_wp2
    go_ret
    exact ⟨rfl, H.out.refl⟩

set_option maxRecDepth 100000 in
theorem commit_sp (h : SIn w0 w s d F n V D N) (hN : N < 900000000000) :
    Calls Tryz.prog 15 #[.pointer (some ⟨s, 0, none⟩)] w fun e w' => e = .returned (.int .i64 0) ∧ SStp w0 w w' s d F n V V (N + 4000) := by
  have H := Lib.hid h
  obtain ⟨p, S, hP, hS, hc⟩ := h.ex
  have c1 := cell_of hc 1
  simp at c1
  obtain ⟨l1, l2⟩ := hS.commit
  have hL := commit_in hP (fun h => by rw [hS.sees.up.told] at h; cases h) (by have := hS.sees.log; omega) (by have := hS.sees.clock; omega)
  rw [l1] at hL
  have HL := Lib.hid hL
  have HC := Lib.hid hc
  have L2 := Lib.hid l2
  clear hL hc l1 l2 hS hP h
  go_enter Tryz.func15, Tryz.ntmps15
  go_wp2_with fail
  refine HL.out.mono ?_
  rintro e w1 ⟨rfl, hP1, hU⟩
  have HP1 := Lib.hid hP1
  have HU := Lib.hid hU
  clear hP1 hU HL
  go_wp2
  go_ret
  refine ⟨rfl, ⟨⟨p, _, HP1.out, L2.out, ?_⟩, H.out.new, fun hx => ?_, H.out.glob⟩, HU.out⟩
  · exact (HU.out.block s (lt_of HC.out) H.out.out).trans HC.out
  · rcases hx with hx | hx
    · exact H.out.out hx
    · have := lt_of HC.out; omega

set_option maxRecDepth 100000 in
theorem undo_sp (h : SIn w0 w s d F n V D N) :
    Calls Tryz.prog 24 #[.pointer (some ⟨s, 0, none⟩)] w fun e w' => e = .returned (.tuple #[]) ∧ SStp w0 w w' s d F n D D N := by
  have H := Lib.hid h
  obtain ⟨p, S, hP, hS, hc⟩ := h.ex
  have c1 := cell_of hc 1
  simp at c1
  have HL := Lib.hid (undo_in hP)
  have HC := Lib.hid hc
  have L2 := Lib.hid hS.undo
  clear hc hS hP h
  go_enter Tryz.func24, Tryz.ntmps24
  go_wp2_with fail
  refine HL.out.mono ?_
  rintro e w1 ⟨rfl, hP1, hU⟩
  have HP1 := Lib.hid hP1
  have HU := Lib.hid hU
  clear hP1 hU HL
  go_wp2
  go_end0
  refine ⟨rfl, ⟨⟨p, _, HP1.out, L2.out, ?_⟩, H.out.new, fun hx => ?_, H.out.glob⟩, HU.out⟩
  · exact (HU.out.block s (lt_of HC.out) H.out.out).trans HC.out
  · rcases hx with hx | hx
    · exact H.out.out hx
    · have := lt_of HC.out; omega

/-- the pages that are taken -/
def takenTo (n : Int) (x : ByteArray) (k : Nat) : List Int := ((List.range k).filter fun j => bitB x (j + 1)).map fun (j : Nat) => jFirst n + 1 + (j : Int)
theorem takenTo_succ (n : Int) (x : ByteArray) (k : Nat) : takenTo n x (k + 1) = if bitB x (k + 1) then takenTo n x k ++ [jFirst n + 1 + (k : Int)] else takenTo n x k := by
  unfold takenTo
  rw [List.range_succ, List.filter_append, List.map_append]
  by_cases h : bitB x (k + 1) <;> simp [List.filter_cons, h]
theorem takenTo_length (n : Int) (x : ByteArray) (k : Nat) : (takenTo n x k).length ≤ k := by
  unfold takenTo
  rw [List.length_map]
  exact Nat.le_trans (List.length_filter_le _ _) (by simp)

set_option maxHeartbeats 1000000 in
set_option maxRecDepth 100000 in
theorem takenl_sp (h : SIn w0 w s d F n V D N) (hN : N < 2305843009213693000) :
    Calls Tryz.prog 29 #[.pointer (some ⟨s, 0, none⟩)] w fun e w' => ∃ a cap w1, e = .returned (.slice a (takenTo n (V (jFirst n)) (spMany n)).length cap) ∧
      SStp w0 w w1 s d F n V D (N + 2) ∧ Below w1.heap.size w1 w' ∧
      w'.ownsRow w1.heap.size 3 1 (.slice a (takenTo n (V (jFirst n)) (spMany n)).length cap) (takenTo n (V (jFirst n)) (spMany n)).length ((takenTo n (V (jFirst n)) (spMany n)).map encZ) := by
  have hbd := h.bd
  have hF := jFirst_bd n
  obtain ⟨m1, m2, m3⟩ := spMany_bd hbd.1 hbd.2
  have hc := h.cell0
  have hC := sfirst_any s n w hc
  have hpg := h.first
  have HX := Lib.hid (h.size hpg)
  have H := Lib.hid h
  have hL := load_sp h hpg (by omega)
  have HL := Lib.hid hL
  have HSF : Hid (∀ w' : World, w'.cell? ⟨s, 0, none⟩ = some (.int .i64 n) → Calls Tryz.prog 40 #[.pointer (some ⟨s, 0, none⟩)] w' fun e w'' => e = .returned (.int .i64 (jFirst n)) ∧ w' = w'') := fun w' => sfirst_any s n w'
  have HSL : Hid (∀ w' : World, w'.cell? ⟨s, 0, none⟩ = some (.int .i64 n) → Calls Tryz.prog 41 #[.pointer (some ⟨s, 0, none⟩)] w' fun e w'' => e = .returned (.int .i64 (jFirst n + spMany n)) ∧ ∃ k, w'' = w'.drewN k) := fun w' hc' => by
    rw [show jFirst n + (spMany n : Int) = jFirst n + jPages n - 2 by omega]; exact slast_any s n w' hc'
  have HSB : Hid (∀ (w' : World) (j : Nat), w'.cell? ⟨s, 0, none⟩ = some (.int .i64 n) → j < 2047 → Calls Tryz.prog 63 #[.pointer (some ⟨s, 0, none⟩), .string (V (jFirst n)), .int .i64 (jFirst n + 1 + j)] w' fun e w'' => e = .returned (.bool (bitB (V (jFirst n)) (j + 1))) ∧ w' = w'') := fun w' j hc' hj =>
    sbit_any s n w' hc' _ HX.out (j + 1) (by omega) _ (by omega)
  clear h hL hpg hc m3 HX
  have HTS : Hid (∀ k, takenTo n (V (jFirst n)) (k + 1) = if bitB (V (jFirst n)) (k + 1) then takenTo n (V (jFirst n)) k ++ [jFirst n + 1 + (k : Int)] else takenTo n (V (jFirst n)) k) := takenTo_succ n (V (jFirst n))
  have HTL : Hid (∀ k, (takenTo n (V (jFirst n)) k).length ≤ k) := takenTo_length n (V (jFirst n))
  have HT0 : Hid (takenTo n (V (jFirst n)) 0 = []) := rfl
  generalize takenTo n (V (jFirst n)) = T at *
  generalize spMany n = m at *
  generalize V (jFirst n) = x at *
  generalize jFirst n = f at *
  go_enter Tryz.func29, Tryz.ntmps29
  go_wp2_with (go_at_call 40; refine hC.mono ?_; rintro e w' ⟨rfl, rfl⟩)
  refine HL.out.mono ?_
  rintro e w1 ⟨rfl, hS⟩
  have HS := Lib.hid hS
  have HC0 := Lib.hid hS.sin.cell0
  have hC1 := HSF.out w1 hS.sin.cell0
  have hsl := hS.sin.slt
  clear hS HL hC
  go_wp2_with (go_at_call 40; refine hC1.mono ?_; rintro e w' ⟨rfl, rfl⟩)
  go_loopw [5, 6] (fun o i wr => ∃ (k : Nat) (a : Option Addr) (cap : Nat), i = .int .i64 (f + 1 + k) ∧ k ≤ m ∧ o = .slice a (T k).length cap ∧ Hid (wr.ownsRow w1.heap.size 3 1 (.slice a (T k).length cap) (T k).length ((T k).map encZ)) ∧ Hid (Below w1.heap.size w1 wr)) (fun _ i _ => (f + 1 + m - intOf i).toNat)
  case atStart => exact ⟨0, none, 0, by simp, by omega, by rw [HT0.out]; rfl, Lib.hid (by rw [HT0.out]; exact World.ownsRow_nil _ _ _ _), Lib.hid (Below.refl _ _)⟩
  case round =>
    obtain ⟨k, a, cap, rfl, hk, rfl, HO, HB⟩ := hrel
    have hc0 : wr.cell? ⟨s, 0, none⟩ = some (.int .i64 n) := (HB.out.cell (p := ⟨s, 0, none⟩) hsl).trans HC0.out
    have hl := HSL.out wr hc0
    by_cases hlt : k < m
    · have hb : ∀ q, Calls Tryz.prog 63 #[.pointer (some ⟨s, 0, none⟩), .string x, .int .i64 (f + 1 + k)] (wr.drewN q) fun e w'' => e = .returned (.bool (bitB x (k + 1))) ∧ wr.drewN q = w'' :=
        fun q => HSB.out (wr.drewN q) k hc0 (by omega)
      have hts := HTS.out k
      cases hbit : bitB x (k + 1) with
      | false =>
        rw [hbit] at hb hts
        have HTK : Hid (T (k + 1) = T k) := by show _ = _; rw [hts]; simp
        clear hbit hts hc0
        go_wp2_with (first
          | (go_at_call 41; refine hl.mono ?_; rintro e w' ⟨rfl, q, rfl⟩)
          | (go_at_call 63; refine (hb _).mono ?_; rintro e w' ⟨rfl, rfl⟩))
        go_roundw
        case rel => exact ⟨k + 1, a, cap, by congr 1; push_cast; omega, by omega, by rw [HTK.out], Lib.hid (by rw [HTK.out]; exact HO.out), Lib.hid (HB.out.trans ((drewN_below wr _).mono HB.out.size))⟩
        case measure => simp [intOf]; omega
      | true =>
        rw [hbit] at hb hts
        have HTK : Hid (T (k + 1) = T k ++ [f + 1 + (k : Int)]) := by show _ = _; rw [hts]; simp
        have htl := HTL.out k
        have HAP : Hid (∀ q, ∃ ao co w3, (Builtin.append_ #[57, 57] 57 #[.slice a (T k).length cap, .slice (some ⟨(wr.drewN q).heap.size, 0, none⟩) 1 1]).run Tryz.prog ((wr.drewN q).alloc (.cells #[.int .i64 (f + 1 + k)] 3)) = .ok (.slice ao ((T k).length + 1) co) w3 ∧
            w3.ownsRow w1.heap.size 3 1 (.slice ao ((T k).length + 1) co) ((T k).length + 1) ((T k).map encZ ++ [.int .i64 (f + 1 + k)]) ∧ (∀ w0 B, Below B w0 (wr.drewN q) → w0.heap.size ≤ w1.heap.size → B ≤ w1.heap.size → Below B w0 w3)) :=
          fun q => one_append 3 57 (.int .i64 0) 8 info_int Tryz.underlying57 rfl (by omega) (wr.drewN q) w1.heap.size _ _ _ (.int .i64 (f + 1 + k)) rfl HO.out (by omega) HB.out.size
        clear hbit hts hc0
        go_wp2_with (first
          | (go_at_call 41; refine hl.mono ?_; rintro e w' ⟨rfl, q, rfl⟩
             obtain ⟨ao, co, w3, hr, HOW, HBL⟩ := HAP.out q)
          | (go_at_call 63; refine (hb _).mono ?_; rintro e w' ⟨rfl, rfl⟩)
          | (at_builtin; refine wpList_append_run hr rfl rfl rfl rfl rfl ?_))
        go_roundw
        case rel =>
          have hlen : (T (k + 1)).length = (T k).length + 1 := by rw [HTK.out]; simp
          refine ⟨k + 1, ao, co, by congr 1; push_cast; omega, by omega, by rw [hlen], ?_, ?_⟩
          · show World.ownsRow _ _ _ _ _ _ _
            rw [hlen, HTK.out, List.map_append]
            exact HOW
          · exact HBL w1 w1.heap.size (HB.out.trans ((drewN_below wr _).mono HB.out.size)) (Nat.le_refl _) (Nat.le_refl _)
        case measure => simp [intOf]; omega
    · obtain rfl : k = m := by omega
      clear hc0
      go_wp2_with (go_at_call 41; refine hl.mono ?_; rintro e w' ⟨rfl, q, rfl⟩)
      go_ret
      exact ⟨a, cap, w1, rfl, HS.out, HB.out.trans ((drewN_below wr _).mono HB.out.size), HO.out⟩

/-- how many of the user's pages are free -/
def spFree (n : Int) (V : Int → ByteArray) : Int := (spMany n : Int) - (takenTo n (V (jFirst n)) (spMany n)).length
set_option maxHeartbeats 1000000 in
set_option maxRecDepth 100000 in
theorem free_sp (h : SIn w0 w s d F n V D N) (hN : N < 2305843009213692000) :
    Calls Tryz.prog 14 #[.pointer (some ⟨s, 0, none⟩)] w fun e w' => e = .returned (.int .i64 (spFree n V)) ∧ SStp w0 w w' s d F n V D (N + 4) := by
  have hbd := h.bd
  have hF := jFirst_bd n
  have hP := jPages_bd n
  obtain ⟨m1, m2, m3⟩ := spMany_bd hbd.1 hbd.2
  have hC := sfirst_any s n w h.cell0
  have HL := Lib.hid (load_sp h h.first (by omega))
  have H := Lib.hid h
  have htl := takenTo_length n (V (jFirst n)) (spMany n)
  have HTK : Hid (∀ w' F', SIn w0 w' s d F' n V D (N + 2) → Calls Tryz.prog 29 #[.pointer (some ⟨s, 0, none⟩)] w' fun e w'' => ∃ a cap w1, e = .returned (.slice a (takenTo n (V (jFirst n)) (spMany n)).length cap) ∧
      SStp w0 w' w1 s d F' n V D (N + 2 + 2) ∧ Below w1.heap.size w1 w'' ∧ w''.ownsRow w1.heap.size 3 1 (.slice a (takenTo n (V (jFirst n)) (spMany n)).length cap) (takenTo n (V (jFirst n)) (spMany n)).length ((takenTo n (V (jFirst n)) (spMany n)).map encZ)) :=
    fun w' F' h' => takenl_sp h' (by omega)
  have HSF : Hid (∀ w' : World, w'.cell? ⟨s, 0, none⟩ = some (.int .i64 n) → Calls Tryz.prog 40 #[.pointer (some ⟨s, 0, none⟩)] w' fun e w'' => e = .returned (.int .i64 (jFirst n)) ∧ w' = w'') := fun w' => sfirst_any s n w'
  have HSL : Hid (∀ w' : World, w'.cell? ⟨s, 0, none⟩ = some (.int .i64 n) → Calls Tryz.prog 41 #[.pointer (some ⟨s, 0, none⟩)] w' fun e w'' => e = .returned (.int .i64 (jFirst n + spMany n)) ∧ ∃ k, w'' = w'.drewN k) := fun w' hc' => by
    rw [show jFirst n + (spMany n : Int) = jFirst n + jPages n - 2 by omega]; exact slast_any s n w' hc'
  have HV : Hid (spFree n V = (spMany n : Int) - (takenTo n (V (jFirst n)) (spMany n)).length) := rfl
  rw [HV.out]
  clear h hP m3 HV
  generalize takenTo n (V (jFirst n)) (spMany n) = T at *
  generalize spMany n = m at *
  generalize V (jFirst n) = x at *
  generalize jFirst n = f at *
  go_enter Tryz.func14, Tryz.ntmps14
  go_wp2_with (go_at_call 40; refine hC.mono ?_; rintro e w' ⟨rfl, rfl⟩)
  refine HL.out.mono ?_
  rintro e w1 ⟨rfl, hS⟩
  have HS := Lib.hid hS
  have hl := HSL.out w1 hS.sin.cell0
  have hf : ∀ q, Calls Tryz.prog 40 #[.pointer (some ⟨s, 0, none⟩)] (w1.drewN q) fun e w' => e = .returned (.int .i64 f) ∧ w1.drewN q = w' := fun q => HSF.out _ hS.sin.cell0
  have HT : Hid (∀ q, Calls Tryz.prog 29 #[.pointer (some ⟨s, 0, none⟩)] (w1.drewN q) fun e w'' => ∃ a cap w2, e = .returned (.slice a T.length cap) ∧
      SStp w0 (w1.drewN q) w2 s d (ext F w w1) n V D (N + 2 + 2) ∧ Below w2.heap.size w2 w'' ∧ w''.ownsRow w2.heap.size 3 1 (.slice a T.length cap) T.length (T.map encZ)) := fun q => HTK.out _ _ (hS.sin.drewN q)
  clear hS HL hC HTK HSF HSL
  go_wp2_with (first
    | (go_at_call 41; refine hl.mono ?_; rintro e w' ⟨rfl, q, rfl⟩)
    | (go_at_call 40; refine (hf _).mono ?_; rintro e w' ⟨rfl, rfl⟩))
  refine (HT.out _).mono ?_
  rintro e w3 ⟨a, cap, w2, rfl, hS2, hB, _⟩
  have HS2 := Lib.hid hS2
  have HB := Lib.hid hB
  clear hS2 hB HT
  go_wp2
  go_ret
  refine ⟨congrArg (fun z => Ending.returned (Value.int .i64 z)) (show f + (m : Int) - f - (T.length : Int) = (m : Int) - T.length by omega), ?_⟩
  exact (SStp.made H.out (SStp.trans H.out HS.out (SStp.after HS.out.sin (drewN_below w1 _) HS2.out)) HB.out).mono (by omega)
end
end Go.Proofs.YtdoankamaobkoaaGreatDoor
