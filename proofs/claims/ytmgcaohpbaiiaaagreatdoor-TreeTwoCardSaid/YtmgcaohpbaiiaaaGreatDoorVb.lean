/- The leaf's reference: Pack. -/
import Derived.Test.YtmgcaohpbaiiaaaGreatDoorVa
import Derived.BigRegion
set_option linter.unusedSimpArgs false
set_option linter.unusedVariables false
namespace Go.Proofs.YtmgcaohpbaiiaaaGreatDoor
open Go.RowKit Go.Maps Go.Shelf
/-- one byte made, as a text -/
theorem conv_one (W : World) (n b : Nat) (hn : n < 256) (hb : W.cell? ⟨b, 0, none⟩ = some (.int .u8 n)) : (convert 154 9 (.slice (some ⟨b, 0, none⟩) 1 1)).run Tryz.prog W = Result.ok (Value.string ⟨#[UInt8.ofNat n]⟩) W := by
  have := run_convert_bytes_back (P := Tryz.prog) W 154 9 5 ⟨b, 0, none⟩ 1 [UInt8.ofNat n] Tryz.underlying154 Tryz.underlying5 Tryz.underlying9 (by
    intro i hi
    obtain rfl : i = 0 := by simpa using hi
    rw [add_none, hb]
    simp
    omega)
  simpa using this
theorem conv_two (W : World) (n m b : Nat) (hn : n < 256) (hm : m < 256) (hb : W.cell? ⟨b, 0, none⟩ = some (.int .u8 n)) (hb1 : W.cell? ⟨b, 1, none⟩ = some (.int .u8 m)) : (convert 154 9 (.slice (some ⟨b, 0, none⟩) 2 2)).run Tryz.prog W = Result.ok (Value.string ⟨#[UInt8.ofNat n, UInt8.ofNat m]⟩) W := by
  have := run_convert_bytes_back (P := Tryz.prog) W 154 9 5 ⟨b, 0, none⟩ 2 [UInt8.ofNat n, UInt8.ofNat m] Tryz.underlying154 Tryz.underlying5 Tryz.underlying9 (by
    intro i hi
    have hi2 : i = 0 ∨ i = 1 := by simp at hi; omega
    rcases hi2 with rfl | rfl
    · rw [add_none, hb]
      simp
      omega
    · rw [add_none, hb1]
      simp
      omega)
  simpa using this
set_option maxHeartbeats 4000000 in
set_option maxRecDepth 100000 in
theorem rpack_any (w : World) (ao : Option Addr) (c : Nat) (kind : Nat) (l : List Ent) (hl : ERow w ao l) (hf : Fine kind l) :
    Calls Tryz.prog 93 #[.int .i64 kind, .slice ao l.length c] w fun e w' => e = .returned (.tuple #[.string (packB kind l), .int .i64 0]) ∧ Below w.heap.size w w' := by
  have hlen := hf.len
  have HC : Hid (∀ W, Below w.heap.size w W → ∀ k (hk : k < l.length), ∃ g off, ao = some ⟨g, off, none⟩ ∧ g < W.heap.size ∧ W.cell? ⟨g, off + k * 2, none⟩ = some (.string (l[k]'hk).1) ∧ W.cell? ⟨g, off + k * 2 + 1, none⟩ = some (.string (l[k]'hk).2)) := fun W hB k hk => by
    obtain ⟨g, off, e, c0, c1⟩ := (hl.made hB).at hk
    exact ⟨g, off, e, World.block_lt_of_cell? W _ c0, c0, c1⟩
  have HI : Hid (∀ k (hk : k < l.length), (l[k]'hk).1.size ≤ 32 ∧ (l[k]'hk).2.size ≤ 64) := fun k hk => hf.all _ (List.getElem_mem hk)
  have HRT : Hid (∀ W, Below w.heap.size w W → Calls Tryz.prog 138 #[.slice ao l.length c] W fun e w' => e = .returned (.int .i64 0) ∧ Below w.heap.size w w') := fun W hB => (rright_any W ao c kind l (hl.made hB) hf).mono fun _ _ ⟨a, b⟩ => ⟨a, hB.trans (b.mono hB.size)⟩
  have HS : Hid (∀ W, Below w.heap.size w W → Calls Tryz.prog 139 #[.slice ao l.length c] W fun e w' => e = .returned (.int .i64 (lSize l : Nat)) ∧ Below w.heap.size w w') := fun W hB => (rsize_any W ao c l (hl.made hB) (by have := hf.size; omega)).mono fun _ _ ⟨a, b⟩ => ⟨a, hB.trans (b.mono hB.size)⟩
  have hraw := rawB_size kind l
  have hsz := hf.size
  have HZ : Hid (∀ W, Below w.heap.size w W → Calls Tryz.prog 140 #[.int .i64 (256 - (lSize l : Int))] W fun e w' => e = .returned (.string (zerosB (256 - lSize l))) ∧ Below w.heap.size w w') := fun W hB => by
    have := zeros_any (256 - lSize l) W (by omega)
    rw [show ((256 - lSize l : Nat) : Int) = 256 - (lSize l : Int) by omega] at this
    exact this.mono fun _ _ ⟨a, b⟩ => ⟨a, hB.trans (b.mono hB.size)⟩
  have HPK : Hid (rawB kind l ++ zerosB (256 - lSize l) = packB kind l) := by
    show _ = _
    unfold packB padB
    rw [hraw]
  have HR0 : Hid (rawP kind l 0 = ⟨#[UInt8.ofNat kind, UInt8.ofNat l.length]⟩) := rawP_zero kind l
  have HRA : Hid (rawP kind l l.length = rawB kind l) := rawP_all kind l
  have HRS : Hid (∀ k (hk : k < l.length), rawP kind l k ++ (((⟨#[UInt8.ofNat (l[k]'hk).1.size]⟩ ++ (l[k]'hk).1) ++ ⟨#[UInt8.ofNat (l[k]'hk).2.size]⟩) ++ (l[k]'hk).2) = rawP kind l (k + 1)) := fun k hk => by
    show _ = _
    rw [rawP_succ kind l hk]
    simp only [ByteArray.append_assoc]
  have HSZ : Hid (∀ k, (rawP kind l k).size ≤ 256) := fun k => by
    rw [rawP_size]
    have := lSum_take_le l k
    unfold lSize at hsz
    omega
  have hsz' : ¬ ((256 : Int) < (lSize l : Nat)) := by omega
  have hk12 := hf.kind
  have hk3 : kind < 256 := by omega
  have hkw : IntKind.u8.wrap (kind : Int) = kind := wraps_u8 _ (by omega) (by omega)
  have hkd : ¬ ((kind : Int) ≠ 1) ∨ ¬ ((kind : Int) ≠ 2) := by omega
  clear hl hf
  obtain ⟨m, HM⟩ : ∃ m, Hid (l.length = m) := ⟨_, Lib.hid rfl⟩
  rw [HM.out] at hlen HS HRT HR0 HRA ⊢
  have hu : IntKind.u8.wrap (m : Int) = m := wraps_u8 _ (by omega) (by omega)
  generalize hls : lSize l = sz at *
  clear hls
  generalize rawB kind l = raw at *
  generalize packB kind l = pk at *
  generalize rawP kind l = rp at *
  have hzs := zerosB_size (256 - sz)
  generalize zerosB (256 - sz) = zz at *
  have hzr : (raw.size : Int) + (zz.size : Int) = 256 := by omega
  have hrt := HRT.out w (Below.refl _ _)
  go_enter Tryz.func93, Tryz.ntmps93
  have HK : Hid (∀ (W : World) (b : Nat), W.heap.size = b → ((convert 154 9 (.slice (some ⟨b, 0, none⟩) 2 2)).run Tryz.prog (W.alloc (.cells #[.int .u8 kind, .int .u8 m] 5)) = Result.ok (Value.string (rp 0)) (W.alloc (.cells #[.int .u8 kind, .int .u8 m] 5)))) := fun W b hb => by
    subst hb
    rw [HR0.out]
    exact conv_two _ kind m _ hk3 (by omega) (by rw [cell_of (heap_alloc_new' W _)]; rfl) (by rw [cell_of (heap_alloc_new' W _)]; rfl)
  have HK1 := Lib.hid hk12
  generalize hkz : (kind : Int) = kz at *
  have hkk : kz = 1 ∨ kz = 2 := by have := HK1.out; omega
  clear hkz hk12 hkd HK1
  rcases hkk with rfl | rfl
  all_goals
    go_wp2_with fail
    refine hrt.mono ?_
    rintro e w1 ⟨rfl, hB1⟩
    have hs1 := HS.out w1 hB1
    clear hrt HRT HS hB1
    go_wp2_with fail
    refine hs1.mono ?_
    rintro e w2 ⟨rfl, hB2⟩
    have hk2 := HK.out w2 w2.heap.size rfl
    have HB2 := Lib.hid hB2
    clear hs1 HK hB2
    go_wp2
    go_loopw [7, 32] (fun u v wr => ∃ (k : Nat), u = .string (rp k) ∧ v = .int .i64 k ∧ k ≤ m ∧ Below w.heap.size w wr) (fun _ v _ => m - (intOf v).toNat)
    case atStart => exact ⟨0, rfl, rfl, by omega, HB2.out.alloc HB2.out.size _⟩
    case round =>
      obtain ⟨k, rfl, rfl, hk, hB⟩ := hrel
      by_cases hlt : k < m
      · have hlt' : k < l.length := by rw [HM.out]; exact hlt
        obtain ⟨g, off, rfl, hgl, c0, c1⟩ := HC.out wr hB k hlt'
        obtain ⟨i1, i2⟩ := HI.out k hlt'
        have HX := Lib.hid (HRS.out k hlt')
        have hs0 := HSZ.out k
        have hux : IntKind.u8.wrap (l[k].1.size : Int) = l[k].1.size := wraps_u8 _ (by omega) (by omega)
        have huy : IntKind.u8.wrap (l[k].2.size : Int) = l[k].2.size := wraps_u8 _ (by omega) (by omega)
        have hcx : ∀ (W : World) (b : Nat), W.cell? ⟨b, 0, none⟩ = some (.int .u8 l[k].1.size) → (convert 154 9 (.slice (some ⟨b, 0, none⟩) 1 1)).run Tryz.prog W = Result.ok (Value.string ⟨#[UInt8.ofNat l[k].1.size]⟩) W := fun W b hb => conv_one W _ b (by omega) hb
        have hcy : ∀ (W : World) (b : Nat), W.cell? ⟨b, 0, none⟩ = some (.int .u8 l[k].2.size) → (convert 154 9 (.slice (some ⟨b, 0, none⟩) 1 1)).run Tryz.prog W = Result.ok (Value.string ⟨#[UInt8.ofNat l[k].2.size]⟩) W := fun W b hb => conv_one W _ b (by omega) hb
        have HB := Lib.hid hB
        clear HC HI HRS HSZ HZ HPK HR0 HRA hk2 hB HB2
        generalize l[k].1 = x at *
        generalize l[k].2 = y at *
        generalize rp k = s at *
        go_upto_region 12 with fail
        go_region
        all_goals
          rw [HX.out]
          go_wp2
          go_roundw
          case rel => exact ⟨k + 1, rfl, by go_num, by omega, ((HB.out.alloc HB.out.size _).alloc (by have := HB.out.size; simp; omega) _).drew⟩
          case measure => simp [intOf]; omega
      · obtain rfl : k = m := by omega
        have hz := HZ.out wr hB
        rw [HRA.out]
        clear HC HI HRS HSZ HR0 HRA hk2 hB HB2 HZ
        go_wp2_with (go_at_call 140; refine hz.mono ?_; rintro e w5 ⟨rfl, hB5⟩)
        go_ret2
        exact ⟨by rw [HPK.out]; rfl, hB5⟩
end Go.Proofs.YtmgcaohpbaiiaaaGreatDoor
