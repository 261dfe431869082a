/- leaf.Pack, piece, Unpack. -/
import Derived.Test.YtmgcaohpbaiiaaaGreatDoorTSize
import Derived.Test.YtmgcaohpbaiiaaaGreatDoorTCopy
import Derived.Deep.RegionLaw
import Derived.Deep.RegionHeld3
import Derived.Laws.BytesArg
set_option linter.unusedSimpArgs false
set_option linter.unusedVariables false
namespace Go.Proofs.YtmgcaohpbaiiaaaGreatDoor
open Go.RowKit Go.Maps Go.Shelf Go.Lib

theorem strCells_append (a b : ByteArray) : strCells (a ++ b) = strCells a ++ strCells b := by simp [strCells, ByteArray.toList_data_append]
set_option maxRecDepth 100000 in
/-- a length and a text behind it, appended to bytes -/
theorem push_piece {B : Nat} {w w1 : World} {ao : Option Addr} {n c : Nat} {s : ByteArray} (h : w.ownsRow B 5 1 (.slice ao n c) n (strCells s)) (hB1 : Below w.heap.size w w1) (hb : B ≤ w.heap.size) (x : ByteArray) (hn : n + 1 + x.size ≤ 1000000) (hx : x.size < 256) :
    ∃ a1 c1 w2 a2 c2 w3, (Builtin.append_ #[154, 154] 154 #[.slice ao n c, .slice (some ⟨w1.heap.size, 0, none⟩) 1 1]).run Tryz.prog (w1.alloc (.cells #[.int .u8 x.size] 5)) = .ok (.slice a1 (n + 1) c1) w2 ∧
      (Builtin.append_ #[154, 9] 154 #[.slice a1 (n + 1) c1, .string x]).run Tryz.prog w2 = .ok (.slice a2 (n + 1 + x.size) c2) w3 ∧
      w3.ownsRow B 5 1 (.slice a2 (n + 1 + x.size) c2) (n + 1 + x.size) (strCells (s ++ (⟨#[UInt8.ofNat x.size]⟩ ++ x))) ∧ Below B w1 w3 ∧
      (∀ (b : Nat) (o : Obj), w1.heap[b]? = some o → (∀ cs, o ≠ .cells cs 5 (0, 0)) → w2.heap[b]? = some o ∧ w3.heap[b]? = some o) := by
  have hsz1 := hB1.size
  have h1 : (w1.alloc (.cells #[.int .u8 x.size] 5)).ownsRow B 5 1 (.slice ao n c) n (strCells s) := by
    refine ownsRow_keep h fun g hg => ?_
    have hgl := (h.lt g hg).2
    rw [Below.heap_alloc _ _ _ (by omega)]
    exact hB1.block g hgl
  obtain ⟨a1, c1, w2, r1, o1, g1, t1⟩ := many_append 5 154 (.int .u8 0) 1 1 info_u8 Tryz.underlying154 rfl (by decide) (by decide) (w1.alloc (.cells #[.int .u8 x.size] 5)) B (.slice ao n c) n (strCells s) h1 ⟨w1.heap.size, 0, none⟩ 1 1 [.int .u8 x.size] rfl
    (fun j u hj => by
      obtain rfl : j = 0 := by have := (List.getElem?_eq_some_iff.1 hj).1; simpa using this
      simp at hj
      subst hj
      rw [add_none, cell_of (heap_alloc_new' w1 _)]; rfl)
    (fun u hu => by simp at hu; subst hu; rfl) (by omega) (by simp; omega)
  obtain ⟨i0, hi, hz0, hz1, hz2⟩ := info_parts info_u8
  have hg1 := g1.size
  obtain ⟨v3, w3, r2, o2, g2, -⟩ := run_append_own_string (P := Tryz.prog) w2 B 154 9 154 5 i0 Tryz.underlying154 Tryz.underlying9 hi hz0 hz1 hz2 _ _ _ o1 x (by unfold maxLen; omega) (by omega) (by simp at hg1; omega)
  obtain ⟨a2, c2, rfl⟩ := ownsRow_slice o2
  refine ⟨a1, c1, w2, a2, c2, w3, r1, r2, ?_, ?_, ?_⟩
  · have e : strCells (s ++ (⟨#[UInt8.ofNat x.size]⟩ ++ x)) = strCells s ++ [.int .u8 x.size] ++ strCells x := by
      rw [strCells_append, strCells_append, List.append_assoc]
      congr 2
      simp [strCells]
      omega
    rw [e]; exact o2
  · have hBa : Below B w1 (w1.alloc (.cells #[.int .u8 x.size] 5)) := (Below.refl _ _).alloc (by omega) _
    exact (hBa.trans (grown_below g1 (fun b hb => (h1.lt b hb).1) (by simp; omega))).trans (grown_below g2 (fun b hb => (o1.lt b hb).1) (by simp at hg1; omega))
  · intro b o hbo hne
    have hbl := lt_of hbo
    have e1 : (w1.alloc (.cells #[.int .u8 x.size] 5)).heap[b]? = some o := (Below.heap_alloc _ _ _ hbl).trans hbo
    have e2 : w2.heap[b]? = some o := (g1.block b (lt_of e1) (fun e => by
      obtain ⟨cur, hc⟩ := ownsRow_block h1 e.symm; rw [e1] at hc; simp at hc; exact hne _ hc)).trans e1
    exact ⟨e2, (g2.block b (lt_of e2) (fun e => by
      obtain ⟨cur, hc⟩ := ownsRow_block o1 e.symm; rw [e2] at hc; simp at hc; exact hne _ hc)).trans e2⟩
/-- bytes as a text -/
theorem conv_bytes {B : Nat} {w : World} {ao : Option Addr} {n c : Nat} {s : ByteArray} (h : w.ownsRow B 5 1 (.slice ao n c) n (strCells s)) :
    (convert 154 9 (.slice ao n c)).run Tryz.prog w = .ok (.string s) w := by
  have hn : n = s.size := by have := h.1; rw [strCells_length] at this; omega
  have hs : strOfNums (s.data.toList.map fun b => (b.toNat : Int)) = s := by
    unfold strOfNums
    have : ((s.data.toList.map fun b => (b.toNat : Int)).map fun n => UInt8.ofNat n.toNat) = s.data.toList := by
      rw [List.map_map]
      conv => rhs; rw [← List.map_id s.data.toList]
      apply List.map_congr_left
      intro b _
      simp
    rw [this]
  rcases h.2 with ⟨hv, h0⟩ | ⟨g, cap, cur, hv, hb, hg, hn2, hm, hsz, ht⟩
  · simp at hv
    obtain ⟨rfl, rfl, rfl⟩ := hv
    rw [run_convert_bytes_nil w 154 5 Tryz.underlying154 Tryz.underlying5 0 0 9 Tryz.underlying9]
    congr 2
    have : s.data.toList.length = 0 := by rw [Array.length_toList]; show s.size = 0; omega
    have h2 : s.data.toList = [] := List.length_eq_zero_iff.1 this
    cases s with | mk d => simp at h2; subst h2; rfl
  · simp at hv
    obtain ⟨rfl, rfl⟩ := hv
    have hl : (s.data.toList.map fun b => (b.toNat : Int)).length = n := by rw [List.length_map, Array.length_toList]; exact hn.symm
    rw [run_convert_bytes_arg w 154 5 Tryz.underlying154 Tryz.underlying5 g 0 n c _ hl (fun i hi => by
      rw [Nat.zero_add, h.cellAt i (by omega)]
      have hi2 : i < s.data.toList.length := by rw [Array.length_toList]; show i < s.size; omega
      unfold strCells
      rw [List.getElem?_map, List.getD_eq_getElem?_getD, List.getElem?_map, List.getElem?_eq_getElem hi2]; rfl) 9 Tryz.underlying9, hs]
/-- an entry's box -/
abbrev boxE (x y : ByteArray) : Obj := .cells #[.string x, .string y] 59 (0, 0)
def rawP (kind : Nat) (l : List Ent) (k : Nat) : ByteArray := ⟨#[UInt8.ofNat kind, UInt8.ofNat l.length]⟩ ++ recsB (l.take k)
theorem rawP_zero (kind : Nat) (l : List Ent) : rawP kind l 0 = ⟨#[UInt8.ofNat kind, UInt8.ofNat l.length]⟩ := by
  unfold rawP
  exact ByteArray.append_empty
theorem rawP_all (kind : Nat) (l : List Ent) : rawP kind l l.length = rawB kind l := by unfold rawP rawB; rw [List.take_length]
theorem rawP_succ (kind : Nat) (l : List Ent) {k : Nat} (h : k < l.length) : rawP kind l (k + 1) = (rawP kind l k ++ (⟨#[UInt8.ofNat l[k].1.size]⟩ ++ l[k].1)) ++ (⟨#[UInt8.ofNat l[k].2.size]⟩ ++ l[k].2) := by
  unfold rawP
  rw [recsB_succ l h]
  unfold recB
  simp only [ByteArray.append_assoc]
theorem rawP_size (kind : Nat) (l : List Ent) (k : Nat) : (rawP kind l k).size = 2 + lSum (l.take k) := by
  unfold rawP
  rw [ByteArray.size_append, recsB_size]; rfl
set_option maxHeartbeats 4000000 in
set_option maxRecDepth 100000 in
theorem pack_any (w : World) (ao : Option Addr) (c : Nat) (kind : Nat) (l : List Ent) (hl : ERow w ao l) (hf : Fine kind l) :
    Calls Tryz.prog 70 #[.int .i64 kind, .slice ao l.length c] w fun e w' => e = .returned (.tuple #[.string (packB kind l), .int .i64 0]) ∧ Below w.heap.size w w' := by
  have hlen := hf.len
  have HC : Hid (∀ W, Below w.heap.size w W → ∀ k (hk : k < l.length), ∃ g off, ao = some ⟨g, off, none⟩ ∧ W.cell? ⟨g, off + k * 2, none⟩ = some (.string (l[k]'hk).1) ∧ W.cell? ⟨g, off + k * 2 + 1, none⟩ = some (.string (l[k]'hk).2)) := fun W hB k hk => (hl.made hB).at hk
  have HI : Hid (∀ k (hk : k < l.length), (l[k]'hk).1.size ≤ 32 ∧ (l[k]'hk).2.size ≤ 64) := fun k hk => hf.all _ (List.getElem_mem hk)
  have HA : Hid (∀ k (hk : k + 1 < l.length), Op.bytesLess (l[k]'(by omega)).1.toList (l[k + 1]'hk).1.toList = true) := fun k hk => ascB_get hf.asc k hk
  have HS : Hid (∀ W, Below w.heap.size w W → Calls Tryz.prog 87 #[.slice ao l.length c] W fun e w' => e = .returned (.int .i64 (lSize l : Nat)) ∧ Below w.heap.size w w') := fun W hB => (lsize_any W ao c l (hl.made hB) (by have := hf.size; omega)).mono fun _ _ ⟨a, b⟩ => ⟨a, hB.trans (b.mono hB.size)⟩
  have HP : Hid (∀ W, Below w.heap.size w W → Calls Tryz.prog 111 #[.string (rawB kind l), .int .i64 256] W fun e w' => e = .returned (.tuple #[.string (packB kind l), .int .i64 0]) ∧ Below w.heap.size w w') := fun W hB =>
    (pad_any (rawB kind l) 256 W (by rw [rawB_size]; exact hf.size) (by omega)).mono fun _ _ ⟨a, b⟩ => ⟨a, hB.trans (b.mono hB.size)⟩
  have HR0 : Hid (strCells (rawP kind l 0) = [.int .u8 kind, .int .u8 l.length]) := by
    show _ = _
    rw [rawP_zero]
    rcases hf.kind with rfl | rfl <;> simp [strCells] <;> omega
  have HRA : Hid (rawP kind l l.length = rawB kind l) := rawP_all kind l
  have HRS : Hid (∀ k (hk : k < l.length), rawP kind l (k + 1) = (rawP kind l k ++ (⟨#[UInt8.ofNat (l[k]'hk).1.size]⟩ ++ (l[k]'hk).1)) ++ (⟨#[UInt8.ofNat (l[k]'hk).2.size]⟩ ++ (l[k]'hk).2)) := fun k hk => rawP_succ kind l hk
  have HSZ : Hid (∀ (W : World) (B : Nat) (ao2 : Option Addr) (n c2 k : Nat), W.ownsRow B 5 1 (.slice ao2 n c2) n (strCells (rawP kind l k)) → n ≤ 256) := fun W B ao2 n c2 k h => by
    have h1 := h.1
    rw [strCells_length, rawP_size] at h1
    have h2 := lSum_take_le l k
    have h3 := hf.size
    unfold lSize at h3
    omega
  have hsz := hf.size
  have hsz' : ¬ ((256 : Int) < (lSize l : Nat)) := by omega
  clear hsz
  have hk12 := hf.kind
  clear hl hf
  obtain ⟨m, HM⟩ : ∃ m, Hid (l.length = m) := ⟨_, Lib.hid rfl⟩
  rw [HM.out] at hlen HS HR0 HRA ⊢
  have hu : IntKind.u8.wrap (m : Int) = m := wraps_u8 _ (by omega) (by omega)
  generalize lSize l = sz at *
  generalize rawB kind l = raw at *
  generalize packB kind l = pk at *
  generalize rawP kind l = rp at *
  obtain ⟨kz, hkz⟩ : ∃ kz : Int, (kind : Int) = kz := ⟨_, rfl⟩
  rw [hkz] at HR0
  have HKZ := Lib.hid hkz
  clear hkz
  rcases hk12 with rfl | rfl
  all_goals
    go_enter Tryz.func70, Tryz.ntmps70
    go_wp2
    go_loopw [19] (fun v wr => ∃ k : Nat, v = .int .i64 k ∧ k ≤ m ∧ Below w.heap.size w wr) (fun v _ => m - (intOf v).toNat)
    case atStart => exact ⟨0, rfl, by omega, Below.refl _ _⟩
    case round =>
      obtain ⟨k, rfl, hk, hB⟩ := hrel
      by_cases hlt : k < m
      · have hlt' : k < l.length := by rw [HM.out]; exact hlt
        have hBo : ∀ x y, Below w.heap.size w (wr.alloc (boxE x y)) := fun x y => hB.alloc hB.size _
        obtain ⟨g, off, rfl, c0, c1⟩ := HC.out wr hB k hlt'
        obtain ⟨i1, i2⟩ := HI.out k hlt'
        have i3 : ¬ ((32 : Int) < (l[k].1.size : Int)) := by omega
        have i4 : ¬ ((64 : Int) < (l[k].2.size : Int)) := by omega
        have b0 : ∀ q, ((wr.alloc (boxE l[k].1 l[k].2)).drewN q).cell? ⟨wr.heap.size, 0, none⟩ = some (.string l[k].1) := fun q => by
          show (wr.alloc _).cell? _ = _
          rw [cell_of (heap_alloc_new' wr _)]; rfl
        cases k with
        | zero =>
          have HB1 := Lib.hid (hBo l[0].1 l[0].2)
          clear hBo i1 i2 HC HI HA HS HP HR0 HRA HRS HSZ
          generalize l[0].1 = x at *
          generalize l[0].2 = y at *
          simp only [Nat.zero_mul, Nat.add_zero] at c0 c1
          go_wp2
          go_quiet (fail)
          go_wp2
          go_roundw
          case rel => exact ⟨1, by rfl, by omega, HB1.out.trans ((drewN_below _ _).mono HB1.out.size)⟩
          case measure => simp [intOf]; omega
        | succ k =>
          have hk' : k < l.length := by omega
          obtain ⟨g2, off2, e2, d0, -⟩ := HC.out _ (hBo l[k + 1].1 l[k + 1].2) k hk'
          simp at e2
          obtain ⟨rfl, rfl⟩ := e2
          have d0' : ∀ q, ((wr.alloc (boxE l[k + 1].1 l[k + 1].2)).drewN q).cell? ⟨g, off + k * 2, none⟩ = some (.string l[k].1) := fun q => d0
          have ha := HA.out k hlt'
          have HB1 := Lib.hid (hBo l[k + 1].1 l[k + 1].2)
          clear hBo i1 i2 HC HI HA HS HP HR0 HRA HRS HSZ d0
          generalize l[k + 1].1 = x at *
          generalize l[k + 1].2 = y at *
          generalize l[k].1 = z at *
          go_wp2
          go_quiet (fail)
          go_wp2
          go_roundw
          case rel => exact ⟨k + 1 + 1, by go_num, by omega, HB1.out.trans ((drewN_below _ _).mono HB1.out.size)⟩
          case measure => simp [intOf]; omega
      · obtain rfl : k = m := by omega
        clear HA
        have HS1 := HS.out wr hB
        clear HS
        go_wp2_with (go_at_call 87; refine HS1.mono ?_; rintro e w1 ⟨rfl, hB1⟩)
        have HB2 : Hid (Below w.heap.size w (w1.alloc (.cells #[.int .u8 kz, .int .u8 k] 5))) := hB1.alloc hB1.size _
        have HO2 : Hid ((w1.alloc (.cells #[.int .u8 kz, .int .u8 k] 5)).ownsRow w.heap.size 5 1 (.slice (some ⟨w1.heap.size, 0, none⟩) 2 2) 2 (strCells (rp 0))) := by
          show World.ownsRow _ _ _ _ _ _ _
          rw [HR0.out]
          exact ⟨rfl, .inr ⟨w1.heap.size, 2, _, rfl, hB1.size, heap_alloc_new' w1 _, Nat.le_refl _, by unfold maxLen; omega, rfl, rfl⟩⟩
        clear HR0
        first
          | (have hz : (1 : Int) = kz := HKZ.out; subst hz)
          | (have hz : (2 : Int) = kz := HKZ.out; subst hz)
        clear HKZ
        go_loopw [8, 61] (fun vo vi wr => ∃ (j : Nat) (ao2 : Option Addr) (s co : Nat), vo = .slice ao2 s co ∧ vi = .int .i64 j ∧ j ≤ k ∧ Hid (wr.ownsRow w.heap.size 5 1 (.slice ao2 s co) s (strCells (rp j))) ∧ Below w.heap.size w wr) (fun _ vi _ => k - (intOf vi).toNat)
        case atStart => exact ⟨0, _, 2, 2, rfl, rfl, by omega, HO2, HB2.out⟩
        case round =>
          obtain ⟨j, ao2, s, co, rfl, rfl, hj, HO, hBr⟩ := hrel
          by_cases hlt : j < k
          · have hlt' : j < l.length := by rw [HM.out]; exact hlt
            obtain ⟨g, off, rfl, c0, c1⟩ := HC.out wr hBr j hlt'
            obtain ⟨i1, i2⟩ := HI.out j hlt'
            have hs0 := HSZ.out wr w.heap.size ao2 s co j HO.out
            have HRJ := Lib.hid (HRS.out j hlt')
            have hux : IntKind.u8.wrap (l[j].1.size : Int) = l[j].1.size := wraps_u8 _ (by omega) (by omega)
            have huy : IntKind.u8.wrap (l[j].2.size : Int) = l[j].2.size := wraps_u8 _ (by omega) (by omega)
            have hBx : Below wr.heap.size wr (wr.alloc (boxE l[j].1 l[j].2)).drew := ((Below.refl _ wr).alloc (Nat.le_refl _) _).drew
            obtain ⟨a1, n1, w2, a2, n2, w3, r1, r2, ho3, hb3, hk3⟩ := push_piece HO.out hBx hBr.size l[j].1 (by omega) (by omega)
            have hsz1 : (wr.alloc (boxE l[j].1 l[j].2)).drew.heap.size = wr.heap.size + 1 := by show (wr.alloc _).heap.size = _; simp
            rw [hsz1] at r1
            clear hsz1
            have hbx : (wr.alloc (boxE l[j].1 l[j].2)).drew.heap[wr.heap.size]? = some (boxE l[j].1 l[j].2) := heap_alloc_new' wr _
            obtain ⟨x2, x3⟩ := hk3 _ _ hbx (by intro cs; simp)
            have hb03 : Below w.heap.size w w3 := (hBr.trans (hBx.mono hBr.size)).trans hb3
            obtain ⟨a4, n4, w5, a6, n6, w7, r4, r5, ho7, hb7, hk7⟩ := push_piece ho3 ((Below.refl w3.heap.size w3).drew) hb03.size l[j].2 (by omega) (by omega)
            obtain ⟨x5, x7⟩ := hk7 _ _ x3 (by intro cs; simp)
            rw [← HRJ.out] at ho7
            have HO7 := Lib.hid ho7
            have HB7 := Lib.hid (hb03.drew.trans hb7)
            clear HC HI HRS HSZ ho3 hb3 hk3 hb03 ho7 hb7 hk7 HRJ hBx HO hBr HP
            have d1 : (wr.alloc (boxE l[j].1 l[j].2)).drew.cell? ⟨wr.heap.size, 0, none⟩ = some (.string l[j].1) := by rw [cell_of hbx]; rfl
            have d1b : ∀ o, ((wr.alloc (boxE l[j].1 l[j].2)).alloc o).drew.cell? ⟨wr.heap.size, 0, none⟩ = some (.string l[j].1) := fun o => by
              show ((wr.alloc _).alloc o).cell? _ = _
              rw [World.cell?_alloc_lt _ _ ⟨wr.heap.size, 0, none⟩ (by simp)]; exact d1
            have d3a : w3.cell? ⟨wr.heap.size, 0, none⟩ = some (.string l[j].1) := by rw [cell_of x3]; rfl
            have d3b : ∀ o, (w3.alloc o).drew.cell? ⟨wr.heap.size, 1, none⟩ = some (.string l[j].2) := fun o => by
              show (w3.alloc o).cell? _ = _
              rw [World.cell?_alloc_lt _ _ ⟨wr.heap.size, 1, none⟩ (lt_of x3), cell_of x3]; rfl
            have d7 : w7.cell? ⟨wr.heap.size, 1, none⟩ = some (.string l[j].2) := by rw [cell_of x7]; rfl
            have d2 : w2.cell? ⟨wr.heap.size, 0, none⟩ = some (.string l[j].1) := by rw [cell_of x2]; rfl
            have d3 : w3.drew.cell? ⟨wr.heap.size, 1, none⟩ = some (.string l[j].2) := by rw [cell_of (w := w3.drew) x3]; rfl
            have d5 : w5.cell? ⟨wr.heap.size, 1, none⟩ = some (.string l[j].2) := by rw [cell_of x5]; rfl
            clear hbx x2 x3 x5 x7
            generalize l[j].1 = x at *
            generalize l[j].2 = y at *
            go_upto_region 17 with fail
            go_region_held3 (fun w' => w'.cell? ⟨wr.heap.size, 0, none⟩ = some (.string x)) (go_keep) (first
              | (refine step_append_run r1 rfl rfl rfl rfl rfl ?_)
              | (refine step_append_run r2 rfl rfl rfl rfl rfl ?_))
            all_goals
              go_upto_region 18 with fail
              go_region_held3 (fun w' => w'.cell? ⟨wr.heap.size, 1, none⟩ = some (.string y)) (go_keep) (first
                | (refine step_append_run r4 rfl rfl rfl rfl rfl ?_)
                | (refine step_append_run r5 rfl rfl rfl rfl rfl ?_))
              all_goals
                go_wp2
                go_roundw
                case rel => exact ⟨j + 1, _, _, _, rfl, by go_num, by omega, HO7, HB7.out⟩
                case measure => simp [intOf]; omega
          · obtain rfl : j = k := by omega
            have hcv := conv_bytes HO.out
            rw [HRA.out] at hcv
            have hp := HP.out wr hBr
            clear HC HI HRS HSZ HO HP HRA
            go_wp2_with (go_at_call 111; refine hp.mono ?_; rintro e w5 ⟨rfl, hB5⟩)
            go_ret2
            exact ⟨rfl, hB5⟩
end Go.Proofs.YtmgcaohpbaiiaaaGreatDoor
