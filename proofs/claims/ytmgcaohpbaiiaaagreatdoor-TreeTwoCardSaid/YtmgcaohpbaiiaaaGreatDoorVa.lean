/- The leaf's and the number's references: Size, Right, Get. -/
import Derived.Test.YtmgcaohpbaiiaaaGreatDoorU12
import Derived.Test.YtmgcaohpbaiiaaaGreatDoorU11
import Derived.BigQuiet
set_option linter.unusedSimpArgs false
set_option linter.unusedVariables false
namespace Go.Proofs.YtmgcaohpbaiiaaaGreatDoor
open Go.RowKit Go.Maps Go.Shelf
set_option maxHeartbeats 1000000 in
set_option maxRecDepth 100000 in
theorem rsize_any (w : World) (ao : Option Addr) (c : Nat) (l : List Ent) (hl : ERow w ao l) (hn : lSize l ≤ 1000000000) :
    Calls Tryz.prog 139 #[.slice ao l.length c] w fun e w' => e = .returned (.int .i64 (lSize l : Nat)) ∧ Below w.heap.size w w' := by
  have HC : Hid (∀ W, Below w.heap.size w W → ∀ k (hk : k < l.length), ∃ g off, ao = some ⟨g, off, none⟩ ∧ (∀ q, (W.drewN q).cell? ⟨g, off + k * 2, none⟩ = some (.string (l[k]'hk).1)) ∧ (∀ q, (W.drewN q).cell? ⟨g, off + k * 2 + 1, none⟩ = some (.string (l[k]'hk).2))) := fun W hB k hk => by
    obtain ⟨g, off, e, c0, c1⟩ := (hl.made hB).at hk
    exact ⟨g, off, e, fun _ => c0, fun _ => c1⟩
  have HS : Hid (∀ k (hk : k < l.length), lSize (l.take (k + 1)) = lSize (l.take k) + (2 + (l[k]'hk).1.size + (l[k]'hk).2.size) ∧ lSize (l.take (k + 1)) ≤ 1000000000) := fun k hk => by
    have h1 := lSum_succ l hk
    have h2 := lSum_take_le l (k + 1)
    unfold lSize at hn ⊢
    omega
  have HL := lSum_len l
  have hln : l.length ≤ 1000000000 := by unfold lSize at hn; omega
  have H0 : Hid (lSize (l.take 0) = 2) := by show _ = _; rfl
  have HE : Hid (lSize (l.take l.length) = lSize l) := by show _ = _; rw [List.take_length]
  clear hl HL hn
  obtain ⟨m, HM⟩ : ∃ m, Hid (l.length = m) := ⟨_, Lib.hid rfl⟩
  rw [HM.out] at hln ⊢
  generalize lSize l = tot at *
  go_enter Tryz.func139, Tryz.ntmps139
  go_wp2
  go_loopw [3, 7] (fun u v wr => ∃ (k s : Nat), u = .int .i64 s ∧ v = .int .i64 k ∧ k ≤ m ∧ s ≤ 1000000000 ∧ Hid (lSize (l.take k) = s) ∧ Below w.heap.size w wr) (fun _ v _ => m - (intOf v).toNat)
  case atStart => exact ⟨0, 2, rfl, rfl, by omega, by omega, H0, Below.refl _ _⟩
  case round =>
    obtain ⟨k, s, rfl, rfl, hk, hs, HK, hB⟩ := hrel
    by_cases hlt : k < m
    · have hlt' : k < l.length := by rw [HM.out]; exact hlt
      obtain ⟨g, off, rfl, hc0, hc1⟩ := HC.out wr hB k hlt'
      obtain ⟨e1, e2⟩ := HS.out k hlt'
      rw [HK.out] at e1
      have h2 : s + (2 + l[k].1.size + l[k].2.size) ≤ 1000000000 := by omega
      have HK2 : Hid (lSize (l.take (k + 1)) = s + (2 + l[k].1.size + l[k].2.size)) := e1
      have HB := Lib.hid hB
      clear e1 e2 HC HS H0 HE hB
      generalize l[k].1 = x at *
      generalize l[k].2 = y at *
      go_upto_region 5 with fail
      go_quiet (fail)
      go_wp2
      go_roundw
      case rel => exact ⟨k + 1, s + (2 + x.size + y.size), by first | rfl | (congr 1; done) | (congr 1; go_num) | (congr 1; push_cast; omega), by go_num, by omega, by omega, HK2, HB.out.trans ((drewN_below _ _).mono HB.out.size)⟩
      case measure => simp [intOf]; omega
    · obtain rfl : k = m := by omega
      have hst : s = tot := by have := HK.out; rw [← HM.out, HE.out] at this; omega
      subst hst
      go_wp2
      go_ret
      exact ⟨rfl, hB⟩
set_option maxHeartbeats 1000000 in
set_option maxRecDepth 100000 in
theorem rright_any (w : World) (ao : Option Addr) (c kind : Nat) (l : List Ent) (hl : ERow w ao l) (hf : Fine kind l) :
    Calls Tryz.prog 138 #[.slice ao l.length c] w fun e w' => e = .returned (.int .i64 0) ∧ Below w.heap.size w w' := by
  have hlen := hf.len
  have HC : Hid (∀ W, Below w.heap.size w W → ∀ k (hk : k < l.length), ∃ g off, ao = some ⟨g, off, none⟩ ∧ (∀ q, (W.drewN q).cell? ⟨g, off + k * 2, none⟩ = some (.string (l[k]'hk).1)) ∧ (∀ q, (W.drewN q).cell? ⟨g, off + k * 2 + 1, none⟩ = some (.string (l[k]'hk).2))) := fun W hB k hk => by
    obtain ⟨g, off, e, c0, c1⟩ := (hl.made hB).at hk
    exact ⟨g, off, e, fun _ => c0, fun _ => c1⟩
  have HI : Hid (∀ k (hk : k < l.length), (l[k]'hk).1.size ≤ 32 ∧ (l[k]'hk).2.size ≤ 64) := fun k hk => hf.all _ (List.getElem_mem hk)
  have HA : Hid (∀ k (hk : k + 1 < l.length), Op.bytesLess (l[k + 1]'hk).1.toList (l[k]'(by omega)).1.toList = false ∧ ((l[k + 1]'hk).1.toList == (l[k]'(by omega)).1.toList) = false) := fun k hk => by
    have h := ascB_get hf.asc k hk
    exact ⟨ltB_asymm h, bytes_neq (fun e => ltB_ne h e.symm)⟩
  clear hl hf
  obtain ⟨m, HM⟩ : ∃ m, Hid (l.length = m) := ⟨_, Lib.hid rfl⟩
  rw [HM.out] at hlen ⊢
  go_enter Tryz.func138, Tryz.ntmps138
  go_wp2
  go_loopw [6] (fun v wr => ∃ (k : Nat), v = .int .i64 k ∧ k ≤ m ∧ Below w.heap.size w wr) (fun v _ => m - (intOf v).toNat)
  case atStart => exact ⟨0, rfl, by omega, Below.refl _ _⟩
  case round =>
    obtain ⟨k, rfl, hk, hB⟩ := hrel
    by_cases hlt : k < m
    · have hlt' : k < l.length := by rw [HM.out]; exact hlt
      obtain ⟨g, off, rfl, c0, c1⟩ := HC.out wr hB k hlt'
      obtain ⟨i1, i2⟩ := HI.out k hlt'
      have i3 : ¬ ((32 : Int) < (l[k].1.size : Int)) := by omega
      have i4 : ¬ ((64 : Int) < (l[k].2.size : Int)) := by omega
      have HB := Lib.hid hB
      have c00 := c0 0
      have c10 := c1 0
      cases k with
      | zero =>
        simp only [Nat.zero_mul, Nat.add_zero, World.drewN_zero] at c0 c1 c00 c10
        clear i1 i2 HC HI HA hB
        generalize l[0].1 = x at *
        generalize l[0].2 = y at *
        go_upto_region 6 with fail
        go_quiet (fail)
        go_wp2
        go_roundw
        case rel => exact ⟨1, by rfl, by omega, HB.out.trans ((drewN_below _ _).mono HB.out.size)⟩
        case measure => simp [intOf]; omega
      | succ k =>
        have hk' : k < l.length := by omega
        obtain ⟨g2, off2, e2, d0, -⟩ := HC.out _ hB k hk'
        simp at e2
        obtain ⟨rfl, rfl⟩ := e2
        obtain ⟨ha, ha2⟩ := HA.out k hlt'
        simp only [World.drewN_zero] at c00 c10
        clear i1 i2 HC HI HA hB
        generalize l[k + 1].1 = x at *
        generalize l[k + 1].2 = y at *
        generalize l[k].1 = z at *
        have e1 : (k : Int) + 1 - 1 = (k : Int) := by omega
        go_upto_region 6 with fail
        go_quiet (fail)
        go_wp2
        go_roundw
        case rel => exact ⟨k + 1 + 1, by go_num, by omega, HB.out.trans ((drewN_below _ _).mono HB.out.size)⟩
        case measure => simp [intOf]; omega
    · obtain rfl : k = m := by omega
      go_wp2
      go_ret
      exact ⟨rfl, hB⟩
set_option maxHeartbeats 1000000 in
theorem rplace_any (v : ByteArray) (w : World) (hv : v.size = 2) :
    Calls Tryz.prog 133 #[.string v, .int .i64 0, .int .i64 2] w fun e w' => e = .returned (.bool true) ∧ w = w' := by
  go_enter Tryz.func133, Tryz.ntmps133
  go_wp2
  go_ret
  exact ⟨rfl, rfl⟩
set_option maxHeartbeats 1000000 in
set_option maxRecDepth 100000 in
theorem rget2_any (v : ByteArray) (w : World) (hv : v.size = 2) :
    Calls Tryz.prog 90 #[.string v, .int .i64 0, .int .i64 2] w fun e w' => e = .returned (.tuple #[.int .u64 (pgN v : Nat), .int .i64 0]) ∧ w = w' := by
  have hP := rplace_any v w hv
  have h0 : 0 < v.size := by omega
  have h1 : 1 < v.size := by omega
  have b0 : v[0].toNat < 256 := UInt8.toNat_lt _
  have b1 : v[1].toNat < 256 := UInt8.toNat_lt _
  have HG : Hid (pgN v = v[0].toNat * 256 + v[1].toNat) := by
    show _ = _
    unfold pgN
    rw [getN_succ, getN_succ]
    simp only [getN, List.range_zero, List.foldl_nil, Nat.zero_add, byteN_get v h0, byteN_get v h1, Nat.zero_mul]
  have HX : Hid (∀ x : Nat, x < 256 → IntKind.u64.wrap (x : Int) = x ∧ IntKind.u64.wrap ((x : Int) * 256) = (x : Int) * 256 ∧ ∀ y : Nat, y < 256 → IntKind.u64.wrap ((x : Int) * 256 + (y : Int)) = (x : Int) * 256 + y) := fun x hx => ⟨wraps_u64 _ (by omega) (by omega), wraps_u64 _ (by omega) (by omega), fun y hy => wraps_u64 _ (by omega) (by omega)⟩
  rw [HG.out]
  push_cast
  clear HG
  obtain ⟨u1, u2, u3⟩ := HX.out _ b0
  obtain ⟨u4, -, -⟩ := HX.out _ b1
  have u5 := u3 _ b1
  clear u3 HX
  go_enter Tryz.func90, Tryz.ntmps90
  go_wp2_with (go_at_call 133; refine hP.mono ?_; rintro e w' ⟨rfl, rfl⟩)
  go_loopw [8, 9] (fun u v' wr => wr = w ∧ ∃ k, v' = .int .i64 k ∧ ((k = 0 ∧ u = .int .u64 0) ∨ (k = 1 ∧ u = .int .u64 v[0].toNat) ∨ (k = 2 ∧ u = .int .u64 ((v[0].toNat : Int) * 256 + (v[1].toNat : Int))))) (fun _ v _ => 2 - (intOf v).toNat)
  case atStart => exact ⟨rfl, 0, rfl, .inl ⟨rfl, rfl⟩⟩
  case round =>
    obtain ⟨rfl, k, rfl, ⟨rfl, rfl⟩ | ⟨rfl, rfl⟩ | ⟨rfl, rfl⟩⟩ := hrel
    · clear hP
      go_wp2
      go_roundw
      case rel => exact ⟨trivial, 1, by go_num, .inr (.inl ⟨rfl, by simp [u1]⟩)⟩
      case measure => simp [intOf, wrap64]
    · clear hP
      go_wp2
      go_roundw
      case rel => exact ⟨trivial, 2, by go_num, .inr (.inr ⟨rfl, by simp [u1, u2, u4, u5]⟩)⟩
      case measure => simp [intOf, wrap64]
    · go_wp2
      go_ret2
      exact ⟨rfl, rfl⟩
end Go.Proofs.YtmgcaohpbaiiaaaGreatDoor
