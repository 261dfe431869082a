/- num.Put, num.Pad; journal.filled; mix.More: what each call comes to. -/
import Derived.Test.YtdoankamaobkoaaGreatDoorIn
import Derived.Laws.BitsLemmas
set_option linter.unusedSimpArgs false
set_option linter.unusedVariables false
namespace Go.Proofs.YtdoankamaobkoaaGreatDoor
open Go.RowKit Go.Maps Go.Shelf

/-- a text with bytes 0 behind it -/
def padB (s : ByteArray) (n : Nat) : ByteArray := s ++ zerosB (n - s.size)
theorem padB_size {s : ByteArray} {n : Nat} (h : s.size ≤ n) : (padB s n).size = n := by
  unfold padB; rw [ByteArray.size_append, zerosB_size]; omega

set_option maxHeartbeats 400000 in
theorem pad_any (s : ByteArray) (n : Nat) (w : World) (hs : s.size ≤ n) (hn : n ≤ 65536) :
    Calls Tryz.prog 36 #[.string s, .int .i64 n] w fun e w' => e = .returned (.tuple #[.string (padB s n), .int .i64 0]) ∧ Below w.heap.size w w' := by
  have hrp := Tryz.strings_Repeat ⟨#[0]⟩ (n - s.size) w (by omega) (by show 1 * (n - s.size) ≤ _; omega)
  have HZ : Hid ((⟨(Lib.repeatL (⟨#[0]⟩ : ByteArray).data.toList (n - s.size)).toArray⟩ : ByteArray) = zerosB (n - s.size)) := by
    show _ = _; unfold zerosB; rw [show (⟨#[0]⟩ : ByteArray).data.toList = [(0 : UInt8)] from rfl, repeatL_zero]
  rw [HZ.out] at hrp
  have HE : Hid (((n - s.size : Nat) : Int) = (n : Int) - (s.size : Int)) := by show _ = _; omega
  rw [HE.out] at hrp
  have hzs : (zerosB (n - s.size)).size = n - s.size := zerosB_size _
  have HZ2 : (zerosB (n - s.size)).size ≤ 65536 := by omega
  have HP : Hid (padB s n = s ++ zerosB (n - s.size)) := rfl
  rw [HP.out]
  clear HZ HP hzs
  generalize zerosB (n - s.size) = zb at *
  go_enter Tryz.func36, Tryz.ntmps36
  go_wp2_with (go_at_call 45; refine hrp.mono ?_; rintro e w' ⟨rfl, hB⟩)
  go_ret2
  exact ⟨rfl, hB⟩

def fill (s : ByteArray) : ByteArray := padB s 256
theorem filled_any (s : ByteArray) (w : World) (hs : s.size ≤ 256) :
    Calls Tryz.prog 111 #[.string s] w fun e w' => e = .returned (.string (fill s)) ∧ Below w.heap.size w w' := by
  go_enter Tryz.func111, Tryz.ntmps111
  go_wp2_with (go_at_call 36; refine (pad_any s 256 _ hs (by omega)).mono ?_; rintro e w' ⟨rfl, hB⟩)
  go_ret
  exact ⟨rfl, hB⟩

set_option maxHeartbeats 400000 in
theorem fits_any (n k : Nat) (w : World) (hn : n < 256 ^ k) (hk1 : 1 ≤ k) (hk2 : k ≤ 8) :
    Calls Tryz.prog 112 #[.int .u64 n, .int .i64 k] w fun e w' => e = .returned (.bool true) ∧ w = w' := by
  by_cases h8 : k = 8
  · subst h8
    go_enter Tryz.func112, Tryz.ntmps112
    go_wp2
    go_ret
    exact ⟨rfl, rfl⟩
  · have h7 : k ≤ 7 := by omega
    have hz : ((n : Int) / 2 ^ (8 * k) == 0) = true := by
      have : n / 2 ^ (8 * k) = 0 := by rw [Nat.pow_mul]; exact Nat.div_eq_of_lt hn
      have h2 : (n : Int) / 2 ^ (8 * k) = ((n / 2 ^ (8 * k) : Nat) : Int) := by simp
      rw [h2, this]; rfl
    go_enter Tryz.func112, Tryz.ntmps112
    go_wp2
    go_ret
    exact ⟨by simp [hz], rfl⟩

/-- a number's bytes, the highest first -/
def putB (n k : Nat) : ByteArray := ⟨((List.range k).map fun p => UInt8.ofNat (n / 2 ^ (8 * (k - 1 - p)))).toArray⟩
theorem putB_size (n k : Nat) : (putB n k).size = k := by simp [putB, ByteArray.size]
/-- the row of bytes when j are laid, the lowest first -/
def putRow (n k j : Nat) : List Value := (List.range k).map fun p => .int .u8 (if k - 1 - p < j then ((n / 2 ^ (8 * (k - 1 - p)) % 256 : Nat) : Int) else 0)
theorem putRow_length (n k j : Nat) : (putRow n k j).length = k := by simp [putRow]
theorem putRow_get {n k j p : Nat} (h : p < k) : (putRow n k j)[p]? = some (.int .u8 (if k - 1 - p < j then ((n / 2 ^ (8 * (k - 1 - p)) % 256 : Nat) : Int) else 0)) := by simp [putRow, h]
theorem putRow_set {n k j : Nat} (h : j < k) : (putRow n k j).set (k - 1 - j) (.int .u8 ((n / 2 ^ (8 * j) % 256 : Nat) : Int)) = putRow n k (j + 1) := by
  apply List.ext_getElem?
  intro p
  rw [List.getElem?_set, putRow_length]
  by_cases hp : p < k
  · by_cases he : k - 1 - j = p
    · subst he
      have e : k - 1 - (k - 1 - j) = j := by omega
      rw [if_pos rfl, if_pos hp, putRow_get hp, e, if_pos (by omega)]
    · rw [if_neg he, putRow_get hp, putRow_get hp]
      have : (k - 1 - p < j) ↔ (k - 1 - p < j + 1) := by omega
      simp only [this]
  · have h1 : (putRow n k j)[p]? = none := List.getElem?_eq_none (by rw [putRow_length]; omega)
    have h2 : (putRow n k (j + 1))[p]? = none := List.getElem?_eq_none (by rw [putRow_length]; omega)
    rw [h1, h2]
    split
    · rw [if_neg (by omega)]
    · rfl

set_option maxRecDepth 100000 in
set_option maxHeartbeats 1000000 in
theorem put_any (n k : Nat) (w : World) (hn : n < 256 ^ k) (hk1 : 1 ≤ k) (hk2 : k ≤ 8) :
    Calls Tryz.prog 87 #[.int .u64 n, .int .i64 k] w fun e w' => e = .returned (.tuple #[.string (putB n k), .int .i64 0]) ∧ Below w.heap.size w w' := by
  have hfit := fits_any n k w hn hk1 hk2
  obtain ⟨i0, hi, hz0, hz1, hz2⟩ := info_parts info_u8
  have hmk := run_make (P := Tryz.prog) w 22 5 i0 (.int .u8 0) Tryz.underlying22 hi hz0 .i64 .i64 k k (by omega) (Int.le_refl _) (by rw [hz2]; omega) (by omega)
  rw [hz1, Nat.mul_one] at hmk
  simp only [Int.toNat_natCast] at hmk
  have hmade : madeCells (Value.int .u8 0).cells k = (putRow n k 0).toArray := by
    apply Array.ext_getElem?
    intro j
    by_cases hj : j < k
    · rw [made_get _ _ _ rfl hj]
      simp [putRow, hj]
    · have h1 : ¬ j < (madeCells (Value.int .u8 0).cells k).size := by rw [size_madeCells]; omega
      rw [Array.getElem?_eq_none (by omega), Array.getElem?_eq_none (by simp [putRow]; omega)]
  rw [hmade] at hmk
  have hcv := fun (W : World) (hW : W.heap[w.heap.size]? = some (.cells (putRow n k k).toArray 5 (0, 0))) => run_convert_bytes_back (P := Tryz.prog) W 22 9 5 ⟨w.heap.size, 0, none⟩ k ((List.range k).map fun p => UInt8.ofNat (n / 2 ^ (8 * (k - 1 - p)))) Tryz.underlying22 Tryz.underlying5 Tryz.underlying9 (by
    intro j hj
    have hj' : j < k := by simpa using hj
    have : (Addr.add ⟨w.heap.size, 0, none⟩ j) = ⟨w.heap.size, j, none⟩ := by unfold Addr.add; split <;> simp_all
    rw [this, cell_of hW, List.getElem?_toArray, putRow_get hj', if_pos (by omega)]
    simp [hj'])
  have HCV := Lib.hid hcv
  clear hi hz0 hz1 hz2 hmade hcv
  go_enter Tryz.func87, Tryz.ntmps87
  go_wp2_with (go_at_call 112; refine hfit.mono ?_; rintro e w' ⟨rfl, rfl⟩)
  go_loopw [15] (fun v wr => ∃ j : Nat, v = .int .i64 j ∧ j ≤ k ∧ Hid (wr.heap[w.heap.size]? = some (.cells (putRow n k j).toArray 5 (0, 0))) ∧ Below w.heap.size w wr) (fun v _ => k - (intOf v).toNat)
  case atStart => exact ⟨0, rfl, by omega, heap_alloc_new' w _, (Below.refl _ w).alloc (Nat.le_refl _) _⟩
  case round =>
    obtain ⟨j, rfl, hj, HK, hB⟩ := hrel
    clear hmk
    by_cases hlt : j < k
    · obtain ⟨m, rfl⟩ : ∃ m, k = m + 1 + j := ⟨k - 1 - j, by omega⟩
      have c := cell_of HK.out m
      rw [List.getElem?_toArray, putRow_get (by omega)] at c
      have f := frozen_of HK.out m
      have hset := heap_setCell_same HK.out m (.int .u8 ((n / 2 ^ (8 * j) % 256 : Nat) : Int))
      have hps := putRow_set (n := n) (k := m + 1 + j) (j := j) (by omega)
      rw [show m + 1 + j - 1 - j = m by omega] at hps
      rw [show (putRow n (m + 1 + j) j).toArray.setIfInBounds m (.int .u8 ((n / 2 ^ (8 * j) % 256 : Nat) : Int)) = (putRow n (m + 1 + j) (j + 1)).toArray by rw [← hps]; simp] at hset
      have HSET := Lib.hid hset
      clear HCV hset hps
      go_wp2
      go_roundw
      case rel => exact ⟨j + 1, rfl, by omega, by show _ = _; have := HSET.out; simpa using this, hB.setCell (Nat.le_refl _) _⟩
      case measure => simp [intOf]; omega
    · obtain rfl : j = k := by omega
      have hcv := HCV.out wr HK.out
      simp only [List.length_map, List.length_range] at hcv
      clear HCV
      go_wp2
      go_ret2
      exact ⟨rfl, hB⟩
/-- one byte more of a sum: its two numbers -/
def mixStep (p : Nat × Nat) (c : UInt8) : Nat × Nat := ((p.1 + c.toNat) % 65521, (p.2 + (p.1 + c.toNat) % 65521) % 65521)
def mixMore (sum : Nat) (s : ByteArray) : Nat :=
  let p := s.data.toList.foldl mixStep (sum % 65536 % 65521, sum / 65536 % 65521)
  p.2 * 65536 + p.1
theorem mixStep_bd (p : Nat × Nat) (c : UInt8) : (mixStep p c).1 < 65521 ∧ (mixStep p c).2 < 65521 := ⟨Nat.mod_lt _ (by decide), Nat.mod_lt _ (by decide)⟩
theorem mixFold_bd : ∀ (l : List UInt8) (p : Nat × Nat), p.1 < 65521 → p.2 < 65521 → (l.foldl mixStep p).1 < 65521 ∧ (l.foldl mixStep p).2 < 65521
  | [], p, h1, h2 => ⟨h1, h2⟩
  | c :: r, p, _, _ => mixFold_bd r _ (mixStep_bd p c).1 (mixStep_bd p c).2
theorem mixMore_lt (sum : Nat) (s : ByteArray) : mixMore sum s < 4294967296 := by
  have := mixFold_bd s.data.toList (sum % 65536 % 65521, sum / 65536 % 65521) (Nat.mod_lt _ (by decide)) (Nat.mod_lt _ (by decide))
  unfold mixMore
  simp only
  omega

theorem wraps_u32 (n : Int) (h₀ : 0 ≤ n) (h₁ : n < 2 ^ 32) : IntKind.u32.wrap n = n := by rw [IntKind.wrap_u32]; omega
theorem u32_low (n : Nat) (h : n < 4294967296) : bits BinOp.and IntKind.u32 (n : Int) 65535 = (n : Int) % 65536 :=
  bits_mask .u32 32 (by decide) wraps_u32 16 (by decide) n (by omega) (by omega)
theorem u32_join (a b : Nat) (ha : a < 65521) (hb : b < 65521) : bits BinOp.or IntKind.u32 ((b : Int) * 65536) (a : Int) = (b : Int) * 65536 + (a : Int) :=
  bits_join .u32 32 (by decide) wraps_u32 16 _ _ (by omega) (by omega) (by omega) (by omega) (by omega) (by omega)

set_option maxRecDepth 100000 in
set_option maxHeartbeats 1000000 in
theorem more_any (sum : Nat) (s : ByteArray) (w : World) (hsum : sum < 4294967296) (hs : s.size ≤ 140737488355328) :
    Calls Tryz.prog 123 #[.int .u32 sum, .string s] w fun e w' => e = .returned (.int .u32 (mixMore sum s)) ∧ w = w' := by
  have hand := u32_low sum hsum
  obtain ⟨q, hq⟩ : ∃ q, q = s.data.toList.foldl mixStep (sum % 65536 % 65521, sum / 65536 % 65521) := ⟨_, rfl⟩
  have hqb := mixFold_bd s.data.toList (sum % 65536 % 65521, sum / 65536 % 65521) (Nat.mod_lt _ (by decide)) (Nat.mod_lt _ (by decide))
  rw [← hq] at hqb
  have hm : mixMore sum s = q.2 * 65536 + q.1 := by rw [hq]; rfl
  rw [hm]
  obtain ⟨x, y⟩ := q
  obtain ⟨hx, hy⟩ := hqb
  have HQ := Lib.hid hq.symm
  simp only at hx hy
  have hor := u32_join x y hx hy
  clear hm hq
  go_enter Tryz.func123, Tryz.ntmps123
  go_wp2
  go_loop [5, 6, 16] (fun va vb vj => ∃ (j a b : Nat), va = .int .u32 a ∧ vb = .int .u32 b ∧ vj = .int .i64 j ∧ j ≤ s.size ∧ a < 65521 ∧ b < 65521 ∧ Hid ((s.data.toList.drop j).foldl mixStep (a, b) = (x, y))) (fun _ _ vj => s.size - (intOf vj).toNat)
  case atStart => exact ⟨0, sum % 65536 % 65521, sum / 65536 % 65521, congrArg _ (by omega), congrArg _ (by omega), rfl, by omega, by omega, by omega, HQ⟩
  case round =>
    obtain ⟨j, a, b, rfl, rfl, rfl, hj, ha, hb, HF⟩ := hrel
    clear hand HQ
    by_cases hlt : j < s.size
    · have hc : s[j].toNat < 256 := UInt8.toNat_lt _
      have HS : Hid ((s.data.toList.drop (j + 1)).foldl mixStep (mixStep (a, b) s[j]) = (x, y)) := by
        show _ = _
        rw [← HF.out, List.drop_eq_getElem_cons (i := j) (l := s.data.toList) (by simp; exact hlt), List.foldl_cons]
        rfl
      have hst : mixStep (a, b) s[j] = ((a + s[j].toNat) % 65521, (b + (a + s[j].toNat) % 65521) % 65521) := rfl
      rw [hst] at HS
      clear HF hst
      go_wp2
      go_round
      case rel => exact ⟨j + 1, (a + s[j].toNat) % 65521, (b + (a + s[j].toNat) % 65521) % 65521, congrArg _ (by omega), congrArg _ (by omega), rfl, by omega, by omega, by omega, HS⟩
      case measure => simp [intOf]; omega
    · obtain rfl : j = s.size := by omega
      have he : (a, b) = (x, y) := by
        have := HF.out
        rw [List.drop_of_length_le (by show s.data.toList.length ≤ s.data.size; simp)] at this
        exact this
      simp only [Prod.mk.injEq] at he
      obtain ⟨rfl, rfl⟩ := he
      clear HF
      go_wp2
      go_ret
      exact ⟨congrArg (fun z => Ending.returned (Value.int IntKind.u32 z)) (show (b : Int) * 65536 + a = ((b * 65536 + a : Nat) : Int) by omega), rfl⟩
end Go.Proofs.YtdoankamaobkoaaGreatDoor
