/- num.Put, num.Pad; journal.filled; mix.More: what each call comes to · journal.list: the blocks of the list · journal.top: the head's block · journal.page, journal.may: may a group be written? · The disk's Write: plain, and what the call comes to · A range over a function whose rounds, and whose iterator, may themselves range over functions: a contract for iterators over pages, and the law of the statement (at the wide fence) · What a round of the journal's writing keeps; the iterator journal.home · journal.write: what an iterator tells is written, up to the first error · clear of a map; the pager's Undo. -/
import Derived.Test.YtmgcaohpbaiiaaaGreatDoorP2
import Derived.Laws.BitsLemmas
import Derived.Laws.OwnMore
import Derived.RangeFuncBox
import Derived.OwnWalk
import Derived.Maps.AppendAt
import Derived.RangeFuncNested
import Derived.RangeFuncBound
import Derived.RangeFuncCalls
import Derived.RangeFuncLeaves
import Derived.Shelf.Abstract
import Derived.Shelf.RegionOpen
import Derived.OwnWalkIn
import Derived.TacticsInMore
import Derived.LoopNIn
import Derived.LoopIn
namespace Go.Proofs.YtmgcaohpbaiiaaaGreatDoor
/-! Num -/
section
set_option linter.unusedSimpArgs false
set_option linter.unusedVariables false
open Go.RowKit Go.Maps Go.Shelf

/-- a text with bytes 0 behind it -/
def padB (s : ByteArray) (n : Nat) : ByteArray := s ++ zerosB (n - s.size)
theorem padB_size {s : ByteArray} {n : Nat} (h : s.size ≤ n) : (padB s n).size = n := by
  unfold padB; rw [ByteArray.size_append, zerosB_size]; omega

set_option maxHeartbeats 400000 in
theorem pad_any (s : ByteArray) (n : Nat) (w : World) (hs : s.size ≤ n) (hn : n ≤ 65536) :
    Calls Tryz.prog 111 #[.string s, .int .i64 n] w fun e w' => e = .returned (.tuple #[.string (padB s n), .int .i64 0]) ∧ Below w.heap.size w w' := by
  have hrp := Tryz.strings_Repeat ⟨#[0]⟩ (n - s.size) w (by omega) (by show 1 * (n - s.size) ≤ _; omega)
  have HZ : Hid ((⟨(Lib.repeatL (⟨#[0]⟩ : ByteArray).data.toList (n - s.size)).toArray⟩ : ByteArray) = zerosB (n - s.size)) := by
    show _ = _; unfold zerosB; rw [show (⟨#[0]⟩ : ByteArray).data.toList = [(0 : UInt8)] from rfl, repeatL_zero]
  rw [HZ.out] at hrp
  have HE : Hid (((n - s.size : Nat) : Int) = (n : Int) - (s.size : Int)) := by show _ = _; omega
  rw [HE.out] at hrp
  have hzs : (zerosB (n - s.size)).size = n - s.size := zerosB_size _
  have HZ2 : (zerosB (n - s.size)).size ≤ 65536 := by omega
  have HP : Hid (padB s n = s ++ zerosB (n - s.size)) := rfl
  rw [HP.out]
  clear HZ HP hzs
  generalize zerosB (n - s.size) = zb at *
  go_enter Tryz.func111, Tryz.ntmps111
  go_wp2_with (go_at_call 61; refine hrp.mono ?_; rintro e w' ⟨rfl, hB⟩)
  go_ret2
  exact ⟨rfl, hB⟩

def fill (s : ByteArray) : ByteArray := padB s 256
theorem filled_any (s : ByteArray) (w : World) (hs : s.size ≤ 256) :
    Calls Tryz.prog 154 #[.string s] w fun e w' => e = .returned (.string (fill s)) ∧ Below w.heap.size w w' := by
  go_enter Tryz.func154, Tryz.ntmps154
  go_wp2_with (go_at_call 111; refine (pad_any s 256 _ hs (by omega)).mono ?_; rintro e w' ⟨rfl, hB⟩)
  go_ret
  exact ⟨rfl, hB⟩

set_option maxHeartbeats 400000 in
theorem fits_any (n k : Nat) (w : World) (hn : n < 256 ^ k) (hk1 : 1 ≤ k) (hk2 : k ≤ 8) :
    Calls Tryz.prog 156 #[.int .u64 n, .int .i64 k] w fun e w' => e = .returned (.bool true) ∧ w = w' := by
  by_cases h8 : k = 8
  · subst h8
    go_enter Tryz.func156, Tryz.ntmps156
    go_wp2
    go_ret
    exact ⟨rfl, rfl⟩
  · have h7 : k ≤ 7 := by omega
    have hz : ((n : Int) / 2 ^ (8 * k) == 0) = true := by
      have : n / 2 ^ (8 * k) = 0 := by rw [Nat.pow_mul]; exact Nat.div_eq_of_lt hn
      have h2 : (n : Int) / 2 ^ (8 * k) = ((n / 2 ^ (8 * k) : Nat) : Int) := by simp
      rw [h2, this]; rfl
    go_enter Tryz.func156, Tryz.ntmps156
    go_wp2
    go_ret
    exact ⟨by simp [hz], rfl⟩

/-- a number's bytes, the highest first -/
def putB (n k : Nat) : ByteArray := ⟨((List.range k).map fun p => UInt8.ofNat (n / 2 ^ (8 * (k - 1 - p)))).toArray⟩
theorem putB_size (n k : Nat) : (putB n k).size = k := by simp [putB, ByteArray.size]
/-- the row of bytes when j are laid, the lowest first -/
def putRow (n k j : Nat) : List Value := (List.range k).map fun p => .int .u8 (if k - 1 - p < j then ((n / 2 ^ (8 * (k - 1 - p)) % 256 : Nat) : Int) else 0)
theorem putRow_length (n k j : Nat) : (putRow n k j).length = k := by simp [putRow]
theorem putRow_get {n k j p : Nat} (h : p < k) : (putRow n k j)[p]? = some (.int .u8 (if k - 1 - p < j then ((n / 2 ^ (8 * (k - 1 - p)) % 256 : Nat) : Int) else 0)) := by simp [putRow, h]
theorem putRow_set {n k j : Nat} (h : j < k) : (putRow n k j).set (k - 1 - j) (.int .u8 ((n / 2 ^ (8 * j) % 256 : Nat) : Int)) = putRow n k (j + 1) := by
  apply List.ext_getElem?
  intro p
  rw [List.getElem?_set, putRow_length]
  by_cases hp : p < k
  · by_cases he : k - 1 - j = p
    · subst he
      have e : k - 1 - (k - 1 - j) = j := by omega
      rw [if_pos rfl, if_pos hp, putRow_get hp, e, if_pos (by omega)]
    · rw [if_neg he, putRow_get hp, putRow_get hp]
      have : (k - 1 - p < j) ↔ (k - 1 - p < j + 1) := by omega
      simp only [this]
  · have h1 : (putRow n k j)[p]? = none := List.getElem?_eq_none (by rw [putRow_length]; omega)
    have h2 : (putRow n k (j + 1))[p]? = none := List.getElem?_eq_none (by rw [putRow_length]; omega)
    rw [h1, h2]
    split
    · rw [if_neg (by omega)]
    · rfl

set_option maxRecDepth 100000 in
set_option maxHeartbeats 1000000 in
theorem put_any (n k : Nat) (w : World) (hn : n < 256 ^ k) (hk1 : 1 ≤ k) (hk2 : k ≤ 8) :
    Calls Tryz.prog 110 #[.int .u64 n, .int .i64 k] w fun e w' => e = .returned (.tuple #[.string (putB n k), .int .i64 0]) ∧ Below w.heap.size w w' := by
  have hfit := fits_any n k w hn hk1 hk2
  obtain ⟨i0, hi, hz0, hz1, hz2⟩ := info_parts info_u8
  have hmk := run_make (P := Tryz.prog) w 154 5 i0 (.int .u8 0) Tryz.underlying154 hi hz0 .i64 .i64 k k (by omega) (Int.le_refl _) (by rw [hz2]; omega) (by omega)
  rw [hz1, Nat.mul_one] at hmk
  simp only [Int.toNat_natCast] at hmk
  have hmade : madeCells (Value.int .u8 0).cells k = (putRow n k 0).toArray := by
    apply Array.ext_getElem?
    intro j
    by_cases hj : j < k
    · rw [made_get _ _ _ rfl hj]
      simp [putRow, hj]
    · have h1 : ¬ j < (madeCells (Value.int .u8 0).cells k).size := by rw [size_madeCells]; omega
      rw [Array.getElem?_eq_none (by omega), Array.getElem?_eq_none (by simp [putRow]; omega)]
  rw [hmade] at hmk
  have hcv := fun (W : World) (hW : W.heap[w.heap.size]? = some (.cells (putRow n k k).toArray 5 (0, 0))) => run_convert_bytes_back (P := Tryz.prog) W 154 9 5 ⟨w.heap.size, 0, none⟩ k ((List.range k).map fun p => UInt8.ofNat (n / 2 ^ (8 * (k - 1 - p)))) Tryz.underlying154 Tryz.underlying5 Tryz.underlying9 (by
    intro j hj
    have hj' : j < k := by simpa using hj
    have : (Addr.add ⟨w.heap.size, 0, none⟩ j) = ⟨w.heap.size, j, none⟩ := by unfold Addr.add; split <;> simp_all
    rw [this, cell_of hW, List.getElem?_toArray, putRow_get hj', if_pos (by omega)]
    simp [hj'])
  have HCV := Lib.hid hcv
  clear hi hz0 hz1 hz2 hmade hcv
  go_enter Tryz.func110, Tryz.ntmps110
  go_wp2_with (go_at_call 156; refine hfit.mono ?_; rintro e w' ⟨rfl, rfl⟩)
  go_loopw [15] (fun v wr => ∃ j : Nat, v = .int .i64 j ∧ j ≤ k ∧ Hid (wr.heap[w.heap.size]? = some (.cells (putRow n k j).toArray 5 (0, 0))) ∧ Below w.heap.size w wr) (fun v _ => k - (intOf v).toNat)
  case atStart => exact ⟨0, rfl, by omega, heap_alloc_new' w _, (Below.refl _ w).alloc (Nat.le_refl _) _⟩
  case round =>
    obtain ⟨j, rfl, hj, HK, hB⟩ := hrel
    clear hmk
    by_cases hlt : j < k
    · obtain ⟨m, rfl⟩ : ∃ m, k = m + 1 + j := ⟨k - 1 - j, by omega⟩
      have c := cell_of HK.out m
      rw [List.getElem?_toArray, putRow_get (by omega)] at c
      have f := frozen_of HK.out m
      have hset := heap_setCell_same HK.out m (.int .u8 ((n / 2 ^ (8 * j) % 256 : Nat) : Int))
      have hps := putRow_set (n := n) (k := m + 1 + j) (j := j) (by omega)
      rw [show m + 1 + j - 1 - j = m by omega] at hps
      rw [show (putRow n (m + 1 + j) j).toArray.setIfInBounds m (.int .u8 ((n / 2 ^ (8 * j) % 256 : Nat) : Int)) = (putRow n (m + 1 + j) (j + 1)).toArray by rw [← hps]; simp] at hset
      have HSET := Lib.hid hset
      clear HCV hset hps
      go_wp2
      go_roundw
      case rel => exact ⟨j + 1, rfl, by omega, by show _ = _; have := HSET.out; simpa using this, hB.setCell (Nat.le_refl _) _⟩
      case measure => simp [intOf]; omega
    · obtain rfl : j = k := by omega
      have hcv := HCV.out wr HK.out
      simp only [List.length_map, List.length_range] at hcv
      clear HCV
      go_wp2
      go_ret2
      exact ⟨rfl, hB⟩
/-- one byte more of a sum: its two numbers -/
def mixStep (p : Nat × Nat) (c : UInt8) : Nat × Nat := ((p.1 + c.toNat) % 65521, (p.2 + (p.1 + c.toNat) % 65521) % 65521)
def mixMore (sum : Nat) (s : ByteArray) : Nat :=
  let p := s.data.toList.foldl mixStep (sum % 65536 % 65521, sum / 65536 % 65521)
  p.2 * 65536 + p.1
theorem mixStep_bd (p : Nat × Nat) (c : UInt8) : (mixStep p c).1 < 65521 ∧ (mixStep p c).2 < 65521 := ⟨Nat.mod_lt _ (by decide), Nat.mod_lt _ (by decide)⟩
theorem mixFold_bd : ∀ (l : List UInt8) (p : Nat × Nat), p.1 < 65521 → p.2 < 65521 → (l.foldl mixStep p).1 < 65521 ∧ (l.foldl mixStep p).2 < 65521
  | [], p, h1, h2 => ⟨h1, h2⟩
  | c :: r, p, _, _ => mixFold_bd r _ (mixStep_bd p c).1 (mixStep_bd p c).2
theorem mixMore_lt (sum : Nat) (s : ByteArray) : mixMore sum s < 4294967296 := by
  have := mixFold_bd s.data.toList (sum % 65536 % 65521, sum / 65536 % 65521) (Nat.mod_lt _ (by decide)) (Nat.mod_lt _ (by decide))
  unfold mixMore
  simp only
  omega

theorem wraps_u32 (n : Int) (h₀ : 0 ≤ n) (h₁ : n < 2 ^ 32) : IntKind.u32.wrap n = n := by rw [IntKind.wrap_u32]; omega
theorem u32_low (n : Nat) (h : n < 4294967296) : bits BinOp.and IntKind.u32 (n : Int) 65535 = (n : Int) % 65536 :=
  bits_mask .u32 32 (by decide) wraps_u32 16 (by decide) n (by omega) (by omega)
theorem u32_join (a b : Nat) (ha : a < 65521) (hb : b < 65521) : bits BinOp.or IntKind.u32 ((b : Int) * 65536) (a : Int) = (b : Int) * 65536 + (a : Int) :=
  bits_join .u32 32 (by decide) wraps_u32 16 _ _ (by omega) (by omega) (by omega) (by omega) (by omega) (by omega)

set_option maxRecDepth 100000 in
set_option maxHeartbeats 1000000 in
theorem more_any (sum : Nat) (s : ByteArray) (w : World) (hsum : sum < 4294967296) (hs : s.size ≤ 140737488355328) :
    Calls Tryz.prog 173 #[.int .u32 sum, .string s] w fun e w' => e = .returned (.int .u32 (mixMore sum s)) ∧ w = w' := by
  have hand := u32_low sum hsum
  obtain ⟨q, hq⟩ : ∃ q, q = s.data.toList.foldl mixStep (sum % 65536 % 65521, sum / 65536 % 65521) := ⟨_, rfl⟩
  have hqb := mixFold_bd s.data.toList (sum % 65536 % 65521, sum / 65536 % 65521) (Nat.mod_lt _ (by decide)) (Nat.mod_lt _ (by decide))
  rw [← hq] at hqb
  have hm : mixMore sum s = q.2 * 65536 + q.1 := by rw [hq]; rfl
  rw [hm]
  obtain ⟨x, y⟩ := q
  obtain ⟨hx, hy⟩ := hqb
  have HQ := Lib.hid hq.symm
  simp only at hx hy
  have hor := u32_join x y hx hy
  clear hm hq
  go_enter Tryz.func173, Tryz.ntmps173
  go_wp2
  go_loop [5, 6, 16] (fun va vb vj => ∃ (j a b : Nat), va = .int .u32 a ∧ vb = .int .u32 b ∧ vj = .int .i64 j ∧ j ≤ s.size ∧ a < 65521 ∧ b < 65521 ∧ Hid ((s.data.toList.drop j).foldl mixStep (a, b) = (x, y))) (fun _ _ vj => s.size - (intOf vj).toNat)
  case atStart => exact ⟨0, sum % 65536 % 65521, sum / 65536 % 65521, congrArg _ (by omega), congrArg _ (by omega), rfl, by omega, by omega, by omega, HQ⟩
  case round =>
    obtain ⟨j, a, b, rfl, rfl, rfl, hj, ha, hb, HF⟩ := hrel
    clear hand HQ
    by_cases hlt : j < s.size
    · have hc : s[j].toNat < 256 := UInt8.toNat_lt _
      have HS : Hid ((s.data.toList.drop (j + 1)).foldl mixStep (mixStep (a, b) s[j]) = (x, y)) := by
        show _ = _
        rw [← HF.out, List.drop_eq_getElem_cons (i := j) (l := s.data.toList) (by simp; exact hlt), List.foldl_cons]
        rfl
      have hst : mixStep (a, b) s[j] = ((a + s[j].toNat) % 65521, (b + (a + s[j].toNat) % 65521) % 65521) := rfl
      rw [hst] at HS
      clear HF hst
      go_wp2
      go_round
      case rel => exact ⟨j + 1, (a + s[j].toNat) % 65521, (b + (a + s[j].toNat) % 65521) % 65521, congrArg _ (by omega), congrArg _ (by omega), rfl, by omega, by omega, by omega, HS⟩
      case measure => simp [intOf]; omega
    · obtain rfl : j = s.size := by omega
      have he : (a, b) = (x, y) := by
        have := HF.out
        rw [List.drop_of_length_le (by show s.data.toList.length ≤ s.data.size; simp)] at this
        exact this
      simp only [Prod.mk.injEq] at he
      obtain ⟨rfl, rfl⟩ := he
      clear HF
      go_wp2
      go_ret
      exact ⟨congrArg (fun z => Ending.returned (Value.int IntKind.u32 z)) (show (b : Int) * 65536 + a = ((b * 65536 + a : Nat) : Int) by omega), rfl⟩
end
/-! List -/
section
set_option linter.unusedSimpArgs false
set_option linter.unusedVariables false
open Go.RowKit Go.Maps Go.Shelf

/-- an append whose run is known -/
theorem wpList_append_run {P : Program} {w w' : World} {v v' x : Value} {ops : Array Oper} {rest : List Oper} {o : Oper} {a : Act} {Q : Exit → Act → World → Prop} {s y : Operand} {t ty : TypeId} (hr : (Builtin.append_ #[t, t] ty #[v, x]).run P w = .ok v' w') (hgd : o.guard = none) (hty : o.type = ty)
    (ho : o.op = .call { callee := .builtin .append, args := #[s, y], argTypes := #[t, t] }) (hs : a.eval s = v) (hy : a.eval y = x)
    (h : wpList P ops Q rest (a.put o.dst v') w') : wpList P ops Q (o :: rest) a w :=
  wpList_plain hgd fun _ hK => by
    subst hty
    unfold Oper.wp execOp
    simp only [ho, resolve, invoke, builtin, Sem.run_bind, Sem.run_pure, Result.andThen_ok, List.map_toArray, List.map_cons, List.map_nil, hs, hy, hr]
    exact hK _ _ h

/-- a slice of pages: what its cells hold -/
def PagesIn (w : World) (a : Option Addr) (l : List (Int × ByteArray)) : Prop :=
  ∃ g, (l ≠ [] → a = some ⟨g, 0, none⟩) ∧ g < w.heap.size ∧ ∀ i, i < l.length → w.cell? ⟨g, i * 2, none⟩ = some (.int .i64 (l.getD i (0, ⟨#[]⟩)).1) ∧ w.cell? ⟨g, i * 2 + 1, none⟩ = some (.string (l.getD i (0, ⟨#[]⟩)).2)

theorem info_page : (Tryz.prog.info? 218).map (fun i => (i.zero, i.size, i.bytes)) = some (some (.agg #[.int .i64 0, .string ⟨#[]⟩]), 2, 24) := by kernel_rfl

/-- the r-th block's numbers, of the first k pages -/
def jRow (l : List (Int × ByteArray)) (k r : Nat) : ByteArray :=
  (List.range (min 128 (k - 128 * r))).foldl (fun s i => s ++ putB (l.getD (128 * r + i) (0, ⟨#[]⟩)).1.toNat 2) ⟨#[]⟩
def jRaw (l : List (Int × ByteArray)) (k : Nat) : List ByteArray := (List.range ((k + 127) / 128)).map (jRow l k)
def jList (l : List (Int × ByteArray)) : List ByteArray := (jRaw l l.length).map fill

theorem jRaw_length (l : List (Int × ByteArray)) (k : Nat) : (jRaw l k).length = (k + 127) / 128 := by simp [jRaw]
theorem foldPut_size (f : Nat → Nat) : ∀ (m : Nat) , ((List.range m).foldl (fun s i => s ++ putB (f i) 2) ⟨#[]⟩).size = 2 * m := by
  intro m
  induction m with
  | zero => rfl
  | succ m ih => rw [List.range_succ, List.foldl_append]; simp only [List.foldl_cons, List.foldl_nil]; rw [ByteArray.size_append, ih, putB_size]; omega
theorem jRow_size (l : List (Int × ByteArray)) (k r : Nat) : (jRow l k r).size = 2 * min 128 (k - 128 * r) := foldPut_size (fun i => (l.getD (128 * r + i) (0, ⟨#[]⟩)).1.toNat) _
theorem jRow_full (l : List (Int × ByteArray)) {k r : Nat} (h : 128 * r + 128 ≤ k) : jRow l (k + 1) r = jRow l k r := by
  unfold jRow
  rw [show min 128 (k + 1 - 128 * r) = min 128 (k - 128 * r) by omega]
theorem jRow_more (l : List (Int × ByteArray)) (k : Nat) : jRow l (k + 1) (k / 128) = jRow l k (k / 128) ++ putB (l.getD k (0, ⟨#[]⟩)).1.toNat 2 := by
  unfold jRow
  rw [show min 128 (k + 1 - 128 * (k / 128)) = k % 128 + 1 by omega, show min 128 (k - 128 * (k / 128)) = k % 128 by omega, List.range_succ, List.foldl_append]
  simp only [List.foldl_cons, List.foldl_nil]
  rw [show 128 * (k / 128) + k % 128 = k by omega]
theorem jRow_none (l : List (Int × ByteArray)) {k : Nat} (h : k % 128 = 0) : jRow l k (k / 128) = ⟨#[]⟩ := by
  unfold jRow
  rw [show min 128 (k - 128 * (k / 128)) = 0 by omega]
  rfl
/-- the rows when one page more is told: a new row is begun where the last is full -/
def jBegun (l : List (Int × ByteArray)) (k : Nat) : List ByteArray := if k % 128 = 0 then jRaw l k ++ [⟨#[]⟩] else jRaw l k
theorem jBegun_length (l : List (Int × ByteArray)) (k : Nat) : (jBegun l k).length = k / 128 + 1 := by
  unfold jBegun
  split
  · rw [List.length_append, jRaw_length]; simp; omega
  · rw [jRaw_length]; omega
theorem jBegun_get (l : List (Int × ByteArray)) (k r : Nat) (hr : r < k / 128 + 1) : (jBegun l k)[r]? = some (jRow l k r) := by
  unfold jBegun
  split
  · rename_i h
    by_cases h2 : r < k / 128
    · rw [List.getElem?_append_left (by rw [jRaw_length]; omega)]
      simp [jRaw, show r < (k + 127) / 128 by omega]
    · have he : r = k / 128 := by omega
      rw [List.getElem?_append_right (by rw [jRaw_length]; omega), jRaw_length, show r - (k + 127) / 128 = 0 by omega, he, jRow_none l h]
      rfl
  · simp [jRaw, show r < (k + 127) / 128 by omega]
theorem jRaw_succ (l : List (Int × ByteArray)) (k : Nat) : jRaw l (k + 1) = (jBegun l k).set (k / 128) (jRow l k (k / 128) ++ putB (l.getD k (0, ⟨#[]⟩)).1.toNat 2) := by
  apply List.ext_getElem?
  intro r
  rw [List.getElem?_set, jBegun_length]
  by_cases hr : r < k / 128 + 1
  · have h1 : (jRaw l (k + 1))[r]? = some (jRow l (k + 1) r) := by simp [jRaw, show r < (k + 1 + 127) / 128 by omega]
    rw [h1]
    by_cases he : k / 128 = r
    · subst he
      rw [if_pos rfl, if_pos hr, jRow_more]
    · rw [if_neg he, jBegun_get l k r hr, jRow_full l (by omega)]
  · have h1 : (jRaw l (k + 1))[r]? = none := List.getElem?_eq_none (by rw [jRaw_length]; omega)
    rw [h1, if_neg (by omega)]
    exact (List.getElem?_eq_none (by rw [jBegun_length]; omega)).symm

/-- the rows when the first i are filled -/
def filledTo (raw : List ByteArray) (i : Nat) : List ByteArray := (raw.take i).map fill ++ raw.drop i
theorem filledTo_zero (raw : List ByteArray) : filledTo raw 0 = raw := by simp [filledTo]
theorem filledTo_all (raw : List ByteArray) : filledTo raw raw.length = raw.map fill := by simp [filledTo]
theorem filledTo_get (raw : List ByteArray) {i : Nat} (h : i < raw.length) : (filledTo raw i)[i]? = some (raw.getD i ⟨#[]⟩) := by
  unfold filledTo
  rw [List.getElem?_append_right (by simp; omega)]
  have : (List.map fill (List.take i raw)).length = i := by simp; omega
  rw [this]
  simp [h]
theorem filledTo_succ (raw : List ByteArray) {i : Nat} (h : i < raw.length) : filledTo raw (i + 1) = (filledTo raw i).set i (fill (raw.getD i ⟨#[]⟩)) := by
  unfold filledTo
  have hl : (List.map fill (List.take i raw)).length = i := by simp; omega
  rw [List.set_append_right _ _ (by omega), hl, Nat.sub_self, List.drop_eq_getElem_cons h, List.set_cons_zero, List.take_succ_eq_append_getElem h, List.map_append, List.append_assoc]
  simp [h]

set_option maxRecDepth 100000 in
set_option maxHeartbeats 2000000 in
theorem list_any (a : Option Addr) (cap : Nat) (l : List (Int × ByteArray)) (w : World) (hl : PagesIn w a l) (hn : l.length ≤ 4096) (hat : ∀ q ∈ l, 0 ≤ q.1 ∧ q.1 < 65536) :
    Calls Tryz.prog 149 #[.slice a l.length cap] w fun e w' => ∃ v, e = .returned v ∧ w'.ownsRow w.heap.size 9 1 v (jList l).length ((jList l).map Value.string) ∧ Below w.heap.size w w' := by
  obtain ⟨g, ha, hg, hcell⟩ := hl
  have HC := Lib.hid hcell
  have HA := Lib.hid ha
  have HAT := Lib.hid hat
  clear hcell ha hat
  obtain ⟨n, hnl⟩ : ∃ n, n = l.length := ⟨_, rfl⟩
  have hJ : jList l = (jRaw l n).map fill := by unfold jList; rw [hnl]
  have hraw : (jRaw l n).length = (n + 127) / 128 := jRaw_length l n
  have hsz : ∀ s ∈ jRaw l n, s.size ≤ 256 := by
    intro s hs
    obtain ⟨r, _, rfl⟩ := List.mem_map.1 hs
    rw [jRow_size]; omega
  rw [hJ]
  obtain ⟨raw, HRAW⟩ : ∃ raw, Hid (jRaw l n = raw) := ⟨_, Lib.hid rfl⟩
  rw [HRAW.out] at hraw hsz ⊢
  have HSZ := Lib.hid hsz
  rw [← hnl] at hn ⊢
  have HN := Lib.hid hnl
  clear hnl hJ hsz
  go_enter Tryz.func149, Tryz.ntmps149
  go_wp2
  go_loopw [3, 12] (fun v u wr => ∃ (j : Nat) (ao : Option Addr) (m co : Nat), v = .slice ao m co ∧ u = .int .i64 j ∧ j ≤ n ∧ m = (j + 127) / 128 ∧ Hid (wr.ownsRow w.heap.size 9 1 (.slice ao m co) m ((jRaw l j).map Value.string)) ∧ Below w.heap.size w wr) (fun _ u _ => n - (intOf u).toNat)
  case atStart => exact ⟨0, none, 0, 0, rfl, rfl, by omega, by omega, World.ownsRow_nil _ _ _ _, Below.refl _ w⟩
  case round =>
    obtain ⟨j, ao, m, co, rfl, rfl, hj, hm, HR, hB⟩ := hrel
    by_cases hlt : j < n
    · have hlt' : j < l.length := by rw [← HN.out]; exact hlt
      obtain ⟨c0, c1⟩ := HC.out j hlt'
      have hb0 := hB.cell (p := ⟨g, j * 2, none⟩) hg
      have hb1 := hB.cell (p := ⟨g, j * 2 + 1, none⟩) hg
      rw [c0] at hb0
      rw [c1] at hb1
      have hxx := HAT.out (l.getD j (0, ⟨#[]⟩)) (by rw [List.getD_eq_getElem?_getD, List.getElem?_eq_getElem hlt']; exact List.getElem_mem _)
      obtain ⟨x, hx⟩ := Int.eq_ofNat_of_zero_le hxx.1
      have HX : Hid ((l.getD j (0, ⟨#[]⟩)).1.toNat = x) := by show _ = _; rw [hx]; simp
      rw [hx] at hb0 hxx
      have hx2 : x < 65536 := by omega
      generalize (l.getD j (0, ⟨#[]⟩)).2 = sx at *
      clear c0 c1 hx hxx
      have hae : a = some ⟨g, 0, none⟩ := HA.out (by intro h; rw [h] at hlt'; simp at hlt')
      subst hae
      -- the row with the new number's place: made, or there
      have hgen : ∀ (W : World) (ao2 : Option Addr) (co2 : Nat), W.ownsRow w.heap.size 9 1 (.slice ao2 (j / 128 + 1) co2) (j / 128 + 1) ((jBegun l j).map Value.string) →
          ∃ g2 : Nat, ao2 = some ⟨g2, 0, none⟩ ∧ w.heap.size ≤ g2 ∧ g2 < W.heap.size ∧ ∀ W', Below W.heap.size W W' → W'.cell? ⟨g2, j / 128, none⟩ = some (.string (jRow l j (j / 128))) ∧ W'.frozen? ⟨g2, j / 128, none⟩ = false ∧
            Hid ((W'.setCell ⟨g2, j / 128, none⟩ (.string (jRow l j (j / 128) ++ putB x 2))).ownsRow w.heap.size 9 1 (.slice (some ⟨g2, 0, none⟩) (j / 128 + 1) co2) (j / 128 + 1) ((jRaw l (j + 1)).map Value.string)) := by
        intro W ao2 co2 hown
        obtain ⟨g2, cap2, he⟩ := ownsRow_succ hown
        simp only [Value.slice.injEq, true_and] at he
        obtain ⟨rfl, rfl⟩ := he
        have hlt2 := hown.lt g2 rfl
        refine ⟨g2, rfl, hlt2.1, hlt2.2, fun W' hB' => ?_⟩
        have hown' := hown.kept (w' := W') (row := none) ⟨hB'.os, hB'.tape, hB'.output, hB'.size, fun k hk _ => hB'.block k hk⟩ (.inr (by simp [Value.ownBlock]))
        refine ⟨?_, hown'.frozenAt _, ?_⟩
        · rw [hown'.cellAt _ (by omega), List.getElem?_map, jBegun_get l j _ (by omega)]; rfl
        · have hs := (hown'.stored (j / 128) (.string (jRow l j (j / 128) ++ putB x 2))).1
          rw [jRaw_succ, HX.out, List.map_set]
          exact hs
      have HG := Lib.hid hgen
      clear hgen
      by_cases hz : j % 128 = 0
      · have hm2 : m = j / 128 := by omega
        subst hm2
        have hbeg : jBegun l j = jRaw l j ++ [⟨#[]⟩] := if_pos hz
        obtain ⟨i0, hi, hz0, hz1, hz2⟩ := info_parts info_str
        have hs := hB.size
        obtain ⟨v3, w3, hr, hown3, hgr, hnil⟩ := run_append_own (P := Tryz.prog) ((wr.alloc (.cells #[.int .i64 x, .string sx] 218)).alloc (.cells #[.string ⟨#[]⟩] 9)) w.heap.size 96 96 9 i0 (.string ⟨#[]⟩) 1 16 Tryz.underlying96 hi hz0 hz1 hz2 rfl (by omega)
          (.slice ao (j / 128) co) (j / 128) ((jRaw l j).map Value.string) ((HR.out.alloc _).alloc _) ⟨wr.heap.size + 1, 0, none⟩ 1 1 [.string ⟨#[]⟩] rfl (by
            intro k u hk
            cases k with
            | zero => simp at hk; subst hk; have := cell_new (wr.alloc (.cells #[.int .i64 x, .string sx] 218)) #[.string ⟨#[]⟩] 9 0; simp [Addr.add] at this ⊢
            | succ k => simp at hk) (by simp [Value.oneCell']) (by unfold maxLen; omega) (by omega) (by simp; omega)
        have hbw3 : Below wr.heap.size wr w3 ∨ True := .inr trivial
        have hlen3 : ((jRaw l j).map Value.string ++ [Value.string ⟨#[]⟩]) = (jBegun l j).map Value.string := by rw [hbeg]; simp
        rw [hlen3] at hown3
        obtain ⟨g3, cap3, rfl⟩ := ownsRow_succ hown3
        obtain ⟨g2, he2, hg1, hg2, hrest⟩ := HG.out w3 (some ⟨g3, 0, none⟩) cap3 hown3
        obtain rfl : g3 = g2 := by simpa using he2
        have hrow1 : ∀ k, (Value.slice ao (j / 128) co).ownBlock = some k → w.heap.size ≤ k := fun k hk => (HR.out.lt k hk).1
        have hbox : w3.cell? ⟨wr.heap.size, 0, none⟩ = some (.int .i64 x) := by
          refine hgr.cell (a := ⟨wr.heap.size, 0, none⟩) ?_ fun e => ?_
          · have h1 := Below.heap_alloc (wr.alloc (.cells #[.int .i64 x, .string sx] 218)) (.cells #[.string ⟨#[]⟩] 9) wr.heap.size (by simp)
            rw [World.cell?_of_block (a := ⟨wr.heap.size, 0, none⟩) h1, cell_new]; rfl
          · have := (HR.out.lt wr.heap.size e.symm).2; omega
        have hB3 : Below w.heap.size w w3 := ((hB.alloc hs _).alloc (by simp; omega) _).grown hgr (by simp; omega) hrow1
        have HB3 := Lib.hid hB3
        have hs3 : w.heap.size ≤ w3.heap.size := hB3.size
        clear HG HR hbeg hm hi hz0 hz1 hz2 hown3 hgr hnil hbw3 hlen3 hrow1 hB3 he2
        have HRS := Lib.hid hrest
        clear hrest
        have hzb : ((j : Int) % 128 == 0) = true := by simp; omega
        go_wp2_with (at_builtin; refine wpList_append_run hr rfl rfl rfl rfl rfl ?_)
        refine (put_any x 2 _ (by omega) (by omega) (by omega)).mono ?_
        rintro e w4 ⟨rfl, hB4⟩
        obtain ⟨hc, hf, HNEW⟩ := HRS.out w4 hB4
        have hB5 := HB3.out.trans (hB4.mono hs3)
        have HB5 := Lib.hid hB5
        have hps := putB_size x 2
        have hrs := jRow_size l j (j / 128)
        have hrs2 : (jRow l j (j / 128)).size ≤ 256 := by omega
        clear hB4 HRS hB5 hb0 hb1 hrs hr
        generalize putB x 2 = pb at *
        generalize jRow l j (j / 128) = rw0 at *
        have hdv : (j : Int) / 128 + 1 - 1 = ((j / 128 : Nat) : Int) := by omega
        have hqe : (j + 1 + 127) / 128 = j / 128 + 1 := by omega
        generalize hq : j / 128 = q at *
        go_wp2
        go_roundw
        case rel => exact ⟨j + 1, _, _, _, rfl, rfl, by omega, hqe.symm, HNEW, HB5.out.setCell hg1 _⟩
        case measure => simp [intOf]; omega
      · have hm2 : m = j / 128 + 1 := by omega
        subst hm2
        have hbeg : jBegun l j = jRaw l j := if_neg hz
        obtain ⟨g2, rfl, hg1, hg2, hrest⟩ := HG.out wr ao co (by rw [hbeg]; exact HR.out)
        clear HG HR hbeg hm
        have HRS := Lib.hid hrest
        clear hrest
        have hzb : ((j : Int) % 128 == 0) = false := by simp; omega
        go_wp2_with fail
        refine (put_any x 2 _ (by omega) (by omega) (by omega)).mono ?_
        rintro e w4 ⟨rfl, hB4⟩
        obtain ⟨hc, hf, HNEW⟩ := HRS.out w4 (((Below.refl _ wr).alloc (Nat.le_refl _) _).trans (hB4.mono (by simp)))
        have hB5 := hB.trans (((Below.refl _ wr).alloc (Nat.le_refl _) _).trans (hB4.mono (by simp)) |>.mono hB.size)
        have HB5 := Lib.hid hB5
        have hps := putB_size x 2
        have hrs := jRow_size l j (j / 128)
        have hrs2 : (jRow l j (j / 128)).size ≤ 256 := by omega
        clear hB4 HRS hB5 hb0 hb1 hrs
        generalize putB x 2 = pb at *
        generalize jRow l j (j / 128) = rw0 at *
        have hdv : (j : Int) / 128 + 1 - 1 = ((j / 128 : Nat) : Int) := by omega
        have hqe : (j + 1 + 127) / 128 = j / 128 + 1 := by omega
        generalize hq : j / 128 = q at *
        go_wp2
        go_roundw
        case rel => exact ⟨j + 1, _, _, _, rfl, rfl, by omega, hqe.symm, HNEW, HB5.out.setCell hg1 _⟩
        case measure => simp [intOf]; omega
    · obtain rfl : j = n := by omega
      rw [HRAW.out] at HR
      obtain rfl : m = raw.length := by omega
      have hbd : raw.length ≤ 64 := by omega
      clear HC HA HAT hm hlt hj hraw HRAW HN
      go_wp2
      go_loopw [42] (fun u wr => ∃ i : Nat, u = .int .i64 i ∧ i ≤ raw.length ∧ Hid (wr.ownsRow w.heap.size 9 1 (.slice ao raw.length co) raw.length ((filledTo raw i).map Value.string)) ∧ Below w.heap.size w wr) (fun u _ => raw.length - (intOf u).toNat)
      case atStart => exact ⟨0, rfl, by omega, by rw [filledTo_zero]; exact HR, hB⟩
      case round =>
        obtain ⟨i, rfl, hi, HR2, hB2⟩ := hrel
        by_cases hlt : i < raw.length
        · have hown := HR2.out
          obtain ⟨g2, rfl⟩ : ∃ g2, ao = some ⟨g2, 0, none⟩ := by
            rcases hown.2 with ⟨h, h0⟩ | ⟨g2, cap2, cur, h, _⟩
            · omega
            · simp only [Value.slice.injEq] at h; exact ⟨g2, h.1⟩
          obtain ⟨hg1, hg2⟩ := hown.lt g2 rfl
          have hget := filledTo_get raw hlt
          have hc := hown.cellAt i (by omega)
          rw [List.getElem?_map, hget] at hc
          have hsi : (raw.getD i ⟨#[]⟩).size ≤ 256 := HSZ.out _ (by rw [List.getD_eq_getElem?_getD, List.getElem?_eq_getElem hlt]; exact List.getElem_mem _)
          have HNX : Hid (∀ W', Below wr.heap.size wr W' → W'.frozen? ⟨g2, i, none⟩ = false ∧ W'.cell? ⟨g2, i, none⟩ = some (.string (raw.getD i ⟨#[]⟩)) ∧ Hid ((W'.setCell ⟨g2, i, none⟩ (.string (fill (raw.getD i ⟨#[]⟩)))).ownsRow w.heap.size 9 1 (.slice (some ⟨g2, 0, none⟩) raw.length co) raw.length ((filledTo raw (i + 1)).map Value.string))) := by
            intro W' hB'
            have hown' := hown.kept (w' := W') (row := none) ⟨hB'.os, hB'.tape, hB'.output, hB'.size, fun k hk _ => hB'.block k hk⟩ (.inr (by simp [Value.ownBlock]))
            refine ⟨hown'.frozenAt _, ?_, ?_⟩
            · rw [hown'.cellAt i (by omega), List.getElem?_map, hget]; rfl
            · rw [filledTo_succ raw hlt, List.map_set]
              exact (hown'.stored i _).1
          simp only [Option.map_some] at hc
          generalize raw.getD i ⟨#[]⟩ = sx at *
          clear hown hget HR2
          generalize hM : raw.length = M at *
          go_wp2_with fail
          refine (filled_any sx _ hsi).mono ?_
          rintro e w4 ⟨rfl, hB4⟩
          obtain ⟨hf4, hc4, HNEW⟩ := HNX.out w4 hB4
          have HB4 := Lib.hid (hB2.trans (hB4.mono hB2.size))
          have hfs : (fill sx).size = 256 := padB_size hsi
          clear hc hB4
          generalize fill sx = fs at *
          go_wp2
          go_roundw
          case rel => exact ⟨i + 1, rfl, by omega, HNEW, HB4.out.setCell hg1 _⟩
          case measure => simp [intOf]; omega
        · obtain rfl : i = raw.length := by omega
          rw [filledTo_all] at HR2
          go_wp2
          go_ret
          exact ⟨_, rfl, by rw [List.length_map]; exact HR2.out, hB2⟩
end
/-! Top -/
section
set_option linter.unusedSimpArgs false
set_option linter.unusedVariables false
open Go.RowKit Go.Maps Go.Shelf

def jMark : ByteArray := ⟨#[106, 114, 110, 108]⟩
def jSum (l : List (Int × ByteArray)) : Nat := (l.map (·.2)).foldl mixMore ((jList l).foldl mixMore 1)
def jTop (l : List (Int × ByteArray)) : ByteArray := fill (jMark ++ putB l.length 2 ++ putB (jSum l) 4)
theorem foldMix_lt : ∀ (l : List ByteArray) (s : Nat), s < 4294967296 → l.foldl mixMore s < 4294967296
  | [], s, h => h
  | x :: r, s, h => foldMix_lt r _ (mixMore_lt s x)
theorem jSum_lt (l : List (Int × ByteArray)) : jSum l < 4294967296 := foldMix_lt _ _ (foldMix_lt _ _ (by decide))
theorem jTop_size (l : List (Int × ByteArray)) : (jTop l).size = 256 := by
  refine padB_size ?_
  rw [ByteArray.size_append, ByteArray.size_append, putB_size, putB_size]
  decide
theorem jList_sizes (l : List (Int × ByteArray)) : ∀ s ∈ jList l, s.size = 256 := by
  intro s hs
  obtain ⟨x, hx, rfl⟩ := List.mem_map.1 hs
  obtain ⟨r, _, rfl⟩ := List.mem_map.1 hx
  refine padB_size ?_
  rw [jRow_size]; omega
theorem jList_length (l : List (Int × ByteArray)) : (jList l).length = (l.length + 127) / 128 := by rw [jList, List.length_map, jRaw_length]

set_option maxRecDepth 100000 in
set_option maxHeartbeats 2000000 in
theorem top_any (a : Option Addr) (cap : Nat) (l : List (Int × ByteArray)) (w : World) (hl : PagesIn w a l) (hn : l.length ≤ 4096) (hat : ∀ q ∈ l, 0 ≤ q.1 ∧ q.1 < 65536) (hsz : ∀ q ∈ l, q.2.size ≤ 65536) :
    Calls Tryz.prog 151 #[.slice a l.length cap] w fun e w' => e = .returned (.string (jTop l)) ∧ Below w.heap.size w w' := by
  have HL := Lib.hid (list_any a cap l w hl hn hat)
  obtain ⟨g, ha, hg, hcell⟩ := hl
  have HC := Lib.hid hcell
  have HA := Lib.hid ha
  have HS := Lib.hid hsz
  have hT : jTop l = fill (jMark ++ putB l.length 2 ++ putB (jSum l) 4) := rfl
  obtain ⟨sum, HSUM⟩ : ∃ sum, Hid (jSum l = sum) := ⟨_, Lib.hid rfl⟩
  have hslt := jSum_lt l
  rw [hT]
  rw [HSUM.out] at hslt ⊢
  have HSUM2 : Hid ((l.map (·.2)).foldl mixMore ((jList l).foldl mixMore 1) = sum) := HSUM.out
  have hjl := jList_length l
  have HJS := Lib.hid (jList_sizes l)
  obtain ⟨n, hnl⟩ : ∃ n, n = l.length := ⟨_, rfl⟩
  obtain ⟨rows, hrows⟩ : ∃ rows, jList l = rows := ⟨_, rfl⟩
  rw [hrows] at HL HSUM2 HJS hjl
  rw [← hnl] at hn HL hjl ⊢
  have HN := Lib.hid hnl
  have HP2 : Hid (∃ p2, putB n 2 = p2) := ⟨_, rfl⟩
  clear hcell ha hat hT HSUM hnl hsz hrows
  have hrl : rows.length ≤ 64 := by omega
  clear hjl
  go_enter Tryz.func151, Tryz.ntmps151
  go_wp2_with fail
  refine HL.out.mono ?_
  rintro e w1 ⟨v, rfl, hown, hB1⟩
  obtain ⟨ao, co, rfl⟩ := ownsRow_slice hown
  have HOWN := Lib.hid hown
  have HB1 := Lib.hid hB1
  have hs1 := hB1.size
  clear hown hB1 HL
  go_wp2
  go_loopw [3, 15] (fun u v wr => ∃ (i s : Nat), u = .int .u32 s ∧ v = .int .i64 i ∧ i ≤ rows.length ∧ s < 4294967296 ∧ Hid ((rows.drop i).foldl mixMore s = rows.foldl mixMore 1) ∧ wr = w1) (fun _ v _ => rows.length - (intOf v).toNat)
  case atStart => exact ⟨0, 1, rfl, rfl, by omega, by omega, Lib.hid (by rw [List.drop_zero]), rfl⟩
  case round =>
    obtain ⟨i, s, rfl, rfl, hi, hs, HF, rfl⟩ := hrel
    by_cases hlt : i < rows.length
    · obtain ⟨g2, rfl⟩ : ∃ g2, ao = some ⟨g2, 0, none⟩ := by
        rcases HOWN.out.2 with ⟨h, h0⟩ | ⟨g2, cap2, cur, h, _⟩
        · omega
        · simp only [Value.slice.injEq] at h; exact ⟨g2, h.1⟩
      have hc := HOWN.out.cellAt i (by omega)
      rw [List.getElem?_map, List.getElem?_eq_getElem hlt] at hc
      simp only [Option.map_some] at hc
      have hx : rows[i].size = 256 := HJS.out _ (List.getElem_mem _)
      have HF2 : Hid ((rows.drop (i + 1)).foldl mixMore (mixMore s rows[i]) = rows.foldl mixMore 1) := by
        show _ = _
        rw [← HF.out, List.drop_eq_getElem_cons (i := i) (l := rows) hlt, List.foldl_cons]
      have hms := mixMore_lt s rows[i]
      have hma := more_any s rows[i] wr hs (by omega)
      clear HF
      generalize mixMore s rows[i] = s2 at *
      generalize rows[i] = x at *
      generalize rows.length = M at *
      go_wp2_with (go_at_call 173; refine hma.mono ?_; rintro e w' ⟨rfl, rfl⟩)
      go_roundw
      case rel => exact ⟨i + 1, s2, rfl, rfl, by omega, hms, HF2, trivial⟩
      case measure => simp [intOf]; omega
    · obtain rfl : i = rows.length := by omega
      have hfe : s = rows.foldl mixMore 1 := by rw [← HF.out, List.drop_of_length_le (Nat.le_refl _)]; rfl
      rw [← hfe] at HSUM2
      clear HF hfe hlt hi HOWN HJS
      go_wp2
      go_loopw [3, 25] (fun u v wr' => ∃ (i s : Nat), u = .int .u32 s ∧ v = .int .i64 i ∧ i ≤ n ∧ s < 4294967296 ∧ Hid (((l.drop i).map (·.2)).foldl mixMore s = sum) ∧ Below w.heap.size w wr') (fun _ v _ => n - (intOf v).toNat)
      case atStart => exact ⟨0, s, rfl, rfl, by omega, hs, HSUM2, HB1.out⟩
      case round =>
        obtain ⟨j, s', rfl, rfl, hj, hs', HF, hB⟩ := hrel
        by_cases hlt : j < n
        · have hlt' : j < l.length := by rw [← HN.out]; exact hlt
          obtain ⟨c0, c1⟩ := HC.out j hlt'
          have hb0 := hB.cell (p := ⟨g, j * 2, none⟩) hg
          have hb1 := hB.cell (p := ⟨g, j * 2 + 1, none⟩) hg
          rw [c0] at hb0
          rw [c1] at hb1
          have hge : l.getD j (0, ⟨#[]⟩) = l[j] := by simp [hlt']
          rw [hge] at hb0 hb1
          have hsx := HS.out _ (List.getElem_mem hlt')
          have hae : a = some ⟨g, 0, none⟩ := HA.out (by intro h; rw [h] at hlt'; simp at hlt')
          subst hae
          have HF2 : Hid (((l.drop (j + 1)).map (·.2)).foldl mixMore (mixMore s' l[j].2) = sum) := by
            show _ = _
            rw [← HF.out, List.drop_eq_getElem_cons (i := j) (l := l) hlt', List.map_cons, List.foldl_cons]
          have hms := mixMore_lt s' l[j].2
          have hma := fun W => more_any s' l[j].2 W hs' (by omega)
          have HMA := Lib.hid hma
          clear HF hma c0 c1 hge
          generalize mixMore s' l[j].2 = s2 at *
          generalize l[j].2 = x at *
          generalize l[j].1 = y at *
          go_wp2_with (go_at_call 173; refine (HMA.out _).mono ?_; rintro e w' ⟨rfl, rfl⟩)
          go_roundw
          case rel => exact ⟨j + 1, s2, rfl, rfl, by omega, hms, HF2, hB.alloc hB.size _⟩
          case measure => simp [intOf]; omega
        · obtain rfl : j = n := by omega
          have hfe : s' = sum := by rw [← HF.out, List.drop_of_length_le (by rw [← HN.out]; exact Nat.le_refl _)]; rfl
          subst hfe
          have hp1 := fun W => put_any j 2 W (by omega) (by omega) (by omega)
          have hp2 := fun W => put_any s' 4 W (by omega) (by omega) (by omega)
          have HP1 := Lib.hid hp1
          have HP22 := Lib.hid hp2
          have hz1 := putB_size j 2
          have hz2 := putB_size s' 4
          have hzm : jMark.size = 4 := rfl
          have hsz3 : (jMark ++ putB j 2 ++ putB s' 4).size ≤ 256 := by rw [ByteArray.size_append, ByteArray.size_append]; omega
          have hfill := fun W => filled_any (jMark ++ putB j 2 ++ putB s' 4) W hsz3
          have HFILL := Lib.hid hfill
          clear HF HA HC HS HN HSUM2 hp1 hp2 hfill
          go_wp2_with fail
          refine (HP1.out _).mono ?_
          rintro e w2 ⟨rfl, hB2⟩
          clear HP1
          go_wp2_with fail
          refine (HP22.out _).mono ?_
          rintro e w3 ⟨rfl, hB3⟩
          clear HP22
          go_wp2_with fail
          refine (HFILL.out _).mono ?_
          rintro e w4 ⟨rfl, hB4⟩
          have HX := Lib.hid (hB.trans ((hB2.trans ((hB3.trans (hB4.mono hB3.size)).mono hB2.size)).mono hB.size))
          clear hB2 hB3 hB4
          go_wp2
          go_ret
          exact ⟨rfl, HX.out⟩
end
/-! May -/
section
set_option linter.unusedSimpArgs false
set_option linter.unusedVariables false
open Go.RowKit Go.Maps Go.Shelf

set_option maxHeartbeats 400000 in
theorem page_any (n i : Int) (w : World) :
    Calls Tryz.prog 172 #[.int .i64 n, .int .i64 i] w fun e w' => e = .returned (.bool (isPage n i)) ∧ w = w' := by
  have hF := jFirst_bd n
  have hP := jPages_bd n
  by_cases h0 : i = 0
  · subst h0
    rw [show isPage n 0 = true from by simp [isPage]]
    go_enter Tryz.func172, Tryz.ntmps172
    go_wp2_with (first
      | (go_at_call 94; refine (first_any _ _).mono ?_; rintro e w' ⟨rfl, rfl⟩)
      | (go_at_call 95; refine (pages_any _ _).mono ?_; rintro e w' ⟨rfl, rfl⟩))
    go_ret
    exact ⟨rfl, rfl⟩
  · have hi : (i == 0) = false := by simpa using h0
    by_cases h1 : i < jFirst n
    · rw [show isPage n i = false by simp [isPage, h0]; omega]
      clear h0
      go_enter Tryz.func172, Tryz.ntmps172
      go_wp2_with (first
        | (go_at_call 94; refine (first_any _ _).mono ?_; rintro e w' ⟨rfl, rfl⟩)
        | (go_at_call 95; refine (pages_any _ _).mono ?_; rintro e w' ⟨rfl, rfl⟩))
      go_ret
      exact ⟨rfl, rfl⟩
    · have h1' : jFirst n ≤ i := by omega
      by_cases h2 : i < jFirst n + jPages n - 1
      · rw [show isPage n i = true by simp [isPage]; omega]
        clear h0 h1
        go_enter Tryz.func172, Tryz.ntmps172
        go_wp2_with (first
          | (go_at_call 94; refine (first_any _ _).mono ?_; rintro e w' ⟨rfl, rfl⟩)
          | (go_at_call 95; refine (pages_any _ _).mono ?_; rintro e w' ⟨rfl, rfl⟩))
        go_ret
        exact ⟨rfl, rfl⟩
      · rw [show isPage n i = false by simp [isPage, h0]; omega]
        have h2' : jFirst n + jPages n - 1 ≤ i := by omega
        have hd : decide (i < jFirst n + jPages n - 1) = false := by simp; omega
        clear h0 h1 h2
        go_enter Tryz.func172, Tryz.ntmps172
        go_wp2_with (first
          | (go_at_call 94; refine (first_any _ _).mono ?_; rintro e w' ⟨rfl, rfl⟩)
          | (go_at_call 95; refine (pages_any _ _).mono ?_; rintro e w' ⟨rfl, rfl⟩))
        go_ret
        exact ⟨rfl, rfl⟩

def jMayL (n : Int) : List (Int × ByteArray) → List Int → Int
  | [], _ => 0
  | p :: r, seen => if isPage n p.1 = false then 1 else if p.2.size ≠ 256 then 3 else if p.1 ∈ seen then 9 else jMayL n r (p.1 :: seen)
def jMay (n : Int) (l : List (Int × ByteArray)) : Int := if jPages n < (l.length : Int) then 10 else jMayL n l []

/-- the map 'seen' -/
def JSeen (sl : List (Int × Value)) (seen : List Int) : Prop := ∀ k, (get k sl).getD (.int .i64 0) = .int .i64 (if k ∈ seen then 1 else 0)
theorem JSeen.ins {sl : List (Int × Value)} {seen : List Int} (h : JSeen sl seen) (k : Int) : JSeen (ins k (.int .i64 1) sl) (k :: seen) := by
  intro k'
  by_cases he : k' = k
  · subst he; rw [get_ins_same]; simp
  · rw [get_ins_other he, h k']
    simp [he]

set_option maxRecDepth 100000 in
set_option maxHeartbeats 2000000 in
theorem jmay_any (n : Int) (a : Option Addr) (cap : Nat) (l : List (Int × ByteArray)) (w : World) (hl : PagesIn w a l) (hwf : ∀ q ∈ l, (Lit.int .i64 q.1).wf = true) (hlen : l.length ≤ 4096) :
    Calls Tryz.prog 150 #[.int .i64 n, .slice a l.length cap] w fun e w' => e = .returned (.int .i64 (jMay n l)) ∧ Below w.heap.size w w' := by
  obtain ⟨g, ha, hg, hcell⟩ := hl
  have HC := Lib.hid hcell
  have HA := Lib.hid ha
  have HWF := Lib.hid hwf
  have hP := jPages_bd n
  clear hcell ha hwf
  by_cases hm : jPages n < (l.length : Int)
  · rw [show jMay n l = 10 from if_pos hm]
    go_enter Tryz.func150, Tryz.ntmps150
    go_wp2_with (go_at_call 95; refine (pages_any _ _).mono ?_; rintro e w' ⟨rfl, rfl⟩)
    go_ret
    exact ⟨rfl, Below.refl _ _⟩
  · obtain ⟨R, HR⟩ : ∃ R, Hid (jMayL n l [] = R) := ⟨_, Lib.hid rfl⟩
    rw [show jMay n l = R from (if_neg hm).trans HR.out]
    have hm' : (l.length : Int) ≤ jPages n := by omega
    obtain ⟨N, hN⟩ : ∃ N, N = l.length := ⟨_, rfl⟩
    rw [← hN] at hm' hlen ⊢
    have HN := Lib.hid hN
    clear hm hN
    have hmm := @run_makeMap Tryz.prog
    go_enter Tryz.func150, Tryz.ntmps150
    go_wp2_with (go_at_call 95; refine (pages_any _ _).mono ?_; rintro e w' ⟨rfl, rfl⟩)
    go_loopw [16] (fun u wr => ∃ (j : Nat) (sl : List (Int × Value)) (seen : List Int), u = .int .i64 j ∧ j ≤ N ∧ sl.length ≤ j ∧ Hid (jMayL n (l.drop j) seen = R) ∧ Hid (JSeen sl seen) ∧ Hid (MapV wr w.heap.size sl) ∧ Below w.heap.size w wr) (fun u _ => N - (intOf u).toNat)
    case atStart => exact ⟨0, [], [], rfl, by omega, by simp, by show _ = _; rw [List.drop_zero]; exact HR.out, by intro k; simp [get], MapV.made w, (Below.refl _ w).alloc (Nat.le_refl _) _⟩
    case round =>
      obtain ⟨j, sl, seen, rfl, hj, hsl, HF, HS, HM, hB⟩ := hrel
      by_cases hlt : j < N
      · have hlt' : j < l.length := by rw [← HN.out]; exact hlt
        obtain ⟨c0, c1⟩ := HC.out j hlt'
        have hb0 := hB.cell (p := ⟨g, j * 2, none⟩) hg
        have hb1 := hB.cell (p := ⟨g, j * 2 + 1, none⟩) hg
        rw [c0] at hb0
        rw [c1] at hb1
        have hge : l.getD j (0, ⟨#[]⟩) = l[j] := by simp [hlt']
        rw [hge] at hb0 hb1
        have hwf := HWF.out _ (List.getElem_mem hlt')
        have hae : a = some ⟨g, 0, none⟩ := HA.out (by intro h; rw [h] at hlt'; simp at hlt')
        subst hae
        have HF1 : Hid ((if isPage n l[j].1 = false then 1 else if l[j].2.size ≠ 256 then 3 else if l[j].1 ∈ seen then 9 else jMayL n (l.drop (j + 1)) (l[j].1 :: seen)) = R) := by
          show _ = _
          rw [← HF.out, List.drop_eq_getElem_cons (i := j) (l := l) hlt']
          rfl
        clear HF c0 c1 hge
        generalize l[j].2 = x at *
        generalize l[j].1 = y at *
        by_cases hp : isPage n y = false
        · have hR : R = 1 := by rw [← HF1.out, if_pos hp]
          have hpg := fun W => page_any n y W
          rw [hp] at hpg
          subst hR
          clear HF1 HS HM HA HC HWF HR
          go_wp2_with (go_at_call 172; refine (hpg _).mono ?_; rintro e w' ⟨rfl, rfl⟩)
          go_ret
          exact ⟨rfl, hB.alloc hB.size _⟩
        · have hp' : isPage n y = true := by simpa using hp
          have hpg := fun W => page_any n y W
          rw [hp'] at hpg
          by_cases hx : x.size ≠ 256
          · have hR : R = 3 := by rw [← HF1.out, if_neg hp, if_pos hx]
            have hxb : ((x.size : Int) != 256) = true := by simp; omega
            subst hR
            clear HF1 HS HM HA HC HWF HR
            go_wp2_with (go_at_call 172; refine (hpg _).mono ?_; rintro e w' ⟨rfl, rfl⟩)
            go_ret
            exact ⟨rfl, hB.alloc hB.size _⟩
          · have hx' : x.size = 256 := by omega
            have hM2 : MapV (wr.alloc (.cells #[.int .i64 y, .string x] 218)) w.heap.size sl := HM.out.congr (Below.heap_alloc wr _ _ HM.out.lt)
            have hlook := hM2.look (k := y) Tryz.underlying250 (z := .int .i64 0) (by kernel_rfl) hwf
            rw [HS.out y] at hlook
            by_cases hse : y ∈ seen
            · have hR : R = 9 := by rw [← HF1.out, if_neg hp, if_neg hx, if_pos hse]
              rw [if_pos hse] at hlook
              subst hR
              clear HF1 HS HM HA HC HWF HR hM2
              go_wp2_with (go_at_call 172; refine (hpg _).mono ?_; rintro e w' ⟨rfl, rfl⟩)
              go_ret
              exact ⟨rfl, hB.alloc hB.size _⟩
            · have HF2 : Hid (jMayL n (l.drop (j + 1)) (y :: seen) = R) := by show _ = _; rw [← HF1.out, if_neg hp, if_neg hx, if_neg hse]
              rw [if_neg hse] at hlook
              obtain ⟨w3, hput, hM3, hT⟩ := hM2.put (k := y) Tryz.underlying250 (by unfold maxLen; omega) hwf (.int .i64 1)
              have HS3 := Lib.hid (HS.out.ins y)
              have HM3 := Lib.hid hM3
              have HB3 : Hid (Below w.heap.size w w3) := by
                have hb := hB.alloc hB.size (.cells #[.int .i64 y, .string x] 218)
                exact ⟨hT.os.trans hb.os, hT.tape.trans hb.tape, hT.output.trans hb.output, by rw [hT.size]; exact hb.size, fun k hk => (hT.block k (by omega)).trans (hb.block k hk)⟩
              have hil := ins_length_le (k := y) (v := Value.int .i64 1) (l := sl)
              clear HF1 HS HM hM2 hM3 hT HR
              go_wp2_with (go_at_call 172; refine (hpg _).mono ?_; rintro e w' ⟨rfl, rfl⟩)
              go_roundw
              case rel => exact ⟨j + 1, _, _, rfl, by omega, by omega, HF2, HS3, HM3, HB3.out⟩
              case measure => simp [intOf]; omega
      · obtain rfl : j = N := by omega
        have hR : R = 0 := by rw [← HF.out, List.drop_of_length_le (by rw [← HN.out]; exact Nat.le_refl _)]; rfl
        subst hR
        go_wp2
        go_ret
        exact ⟨rfl, hB⟩
end
/-! Write -/
section
set_option linter.unusedSimpArgs false
set_option linter.unusedVariables false
open Go.RowKit Go.Maps Go.Shelf

def Dsk.write (S : Dsk) (i : Int) (s : ByteArray) : Int × Dsk :=
  if S.may i ≠ 0 then (S.may i, S) else
  if s.size ≠ 256 then (3, S) else
  if S.told = true ∧ S.left = 0 then (17, { S with down := true }) else
  (0, { S with left := if S.told then S.left - 1 else S.left, blocks := S.blocks.set i.toNat s, log := S.log ++ [(i, s)] })
/-- what holds of the power's count, and of the log's length -/
structure Dsk.Fit (S : Dsk) : Prop where
  left : S.told = true → 0 ≤ S.left ∧ S.left < 9223372036854775808
  log : S.log.length < 1000000000000

/-- the blocks of a disk -/
def dfp (d bb : Nat) (lg : Value) (b : Nat) : Prop := b = d ∨ b = bb ∨ lg.ownBlock = some b

/-- a disk has turned into another: its own blocks alone; its log lies where it lay, or in a new block -/
structure DStp (d bb : Nat) (lg lg' : Value) (w w' : World) (S' : Dsk) : Prop where
  at_ : DiskAt w' d bb lg' S'
  upd : Upd (dfp d bb lg) w w'
  log : ∀ b, lg'.ownBlock = some b → lg.ownBlock = some b ∨ w.heap.size ≤ b

theorem log_append (W : World) (lg : Value) (l : List (Int × ByteArray)) (i : Int) (s : ByteArray) (hown : W.ownsRow 0 218 2 lg l.length (pageCells l)) (hlen : l.length < 1000000000000) :
    ∃ v3 w3, (Builtin.append_ #[110, 110] 110 #[lg, .slice (some ⟨W.heap.size, 0, none⟩) 1 1]).run Tryz.prog (W.alloc (.cells #[.int .i64 i, .string s] 218)) = .ok v3 w3 ∧
      w3.ownsRow 0 218 2 v3 (l ++ [(i, s)]).length (pageCells (l ++ [(i, s)])) ∧ (W.alloc (.cells #[.int .i64 i, .string s] 218)).grownBy w3 lg.ownBlock ∧ (v3.ownBlock = lg.ownBlock ∨ v3.ownBlock = some (W.heap.size + 1)) := by
  obtain ⟨i0, hi, hz0, hz1, hz2⟩ := info_parts info_page
  obtain ⟨v3, w3, hr, hown3, hgr, _, hat⟩ := run_append_own_at (P := Tryz.prog) (W.alloc (.cells #[.int .i64 i, .string s] 218)) 0 110 110 218 i0 (.agg #[.int .i64 0, .string ⟨#[]⟩]) 2 24 Tryz.underlying110 hi hz0 hz1 hz2 rfl (by omega)
    lg l.length (pageCells l) (hown.alloc _) ⟨W.heap.size, 0, none⟩ 1 1 [.int .i64 i, .string s] rfl (by
      intro k u hk
      have hadd : Addr.add ⟨W.heap.size, 0, none⟩ k = ⟨W.heap.size, k, none⟩ := by unfold Addr.add; split <;> simp_all
      rw [hadd, cell_new]
      simpa using hk) (by simp [Value.oneCell']) (by unfold maxLen; omega) (by omega) (by omega)
  refine ⟨v3, w3, hr, ?_, hgr, by rw [World.size_alloc] at hat; exact hat⟩
  rw [List.length_append, pageCells, List.flatMap_append]
  exact hown3

theorem lg_ne {w : World} {d bb : Nat} {lg : Value} {S : Dsk} (h : DiskAt w d bb lg S) : lg.ownBlock ≠ some d ∧ lg.ownBlock ≠ some bb := by
  obtain ⟨_, ⟨rfl, _⟩ | ⟨g, cap, cur, rfl, _, hg, _⟩⟩ := h.lg
  · simp [Value.ownBlock]
  · refine ⟨fun e => ?_, fun e => ?_⟩
    · simp [Value.ownBlock] at e; subst e; rw [h.d] at hg; simp at hg
    · simp [Value.ownBlock] at e; subst e; rw [h.bb] at hg; simp at hg

/-- behind the write of the block: the log grows -/
theorem write_tail {w W0 : World} {d bb : Nat} {lg : Value} {S : Dsk} (hne : d ≠ bb) (hlg : lg.ownBlock ≠ some d ∧ lg.ownBlock ≠ some bb) (hu : Upd (dfp d bb lg) w W0) (hfit : S.log.length < 1000000000000) (l2 : Int) (bs : List ByteArray) (i : Int) (s : ByteArray)
    (hd : W0.heap[d]? = some (.cells #[.slice (some ⟨bb, 0, none⟩) bs.length bs.length, lg, .int .i64 l2, .bool S.told, .bool S.down] 112 (0, 0)))
    (hb : W0.heap[bb]? = some (.cells (bs.map Value.string).toArray 9 (0, 0)))
    (hr : W0.ownsRow 0 218 2 lg S.log.length (pageCells S.log)) :
    ∃ v3 w3, (Builtin.append_ #[110, 110] 110 #[lg, .slice (some ⟨W0.heap.size, 0, none⟩) 1 1]).run Tryz.prog (W0.alloc (.cells #[.int .i64 i, .string s] 218)) = .ok v3 w3 ∧
      w3.cell? ⟨d, 1, none⟩ = some lg ∧ w3.frozen? ⟨d, 1, none⟩ = false ∧ v3.oneCell' = true ∧
      DStp d bb lg v3 w (w3.setCell ⟨d, 1, none⟩ v3) { S with left := l2, blocks := bs, log := S.log ++ [(i, s)] } := by
  obtain ⟨v3, w3, hrun, hown3, hgr, hat⟩ := log_append W0 lg S.log i s hr hfit
  have hd1 : w3.heap[d]? = some (.cells #[.slice (some ⟨bb, 0, none⟩) bs.length bs.length, lg, .int .i64 l2, .bool S.told, .bool S.down] 112 (0, 0)) := by
    rw [hgr.block d (by have := lt_of hd; simp; omega) (fun e => hlg.1 e.symm), Below.heap_alloc _ _ _ (lt_of hd), hd]
  have hb1 : w3.heap[bb]? = some (.cells (bs.map Value.string).toArray 9 (0, 0)) := by
    rw [hgr.block bb (by have := lt_of hb; simp; omega) (fun e => hlg.2 e.symm), Below.heap_alloc _ _ _ (lt_of hb), hb]
  have hv3 : ∀ b, v3.ownBlock = some b → lg.ownBlock = some b ∨ (w.heap.size ≤ b ∧ b ≠ d ∧ b ≠ bb) := fun b hb' => by
    have h1 := lt_of hd
    have h2 := lt_of hb
    have h3 := hu.size
    rcases hat with h | h
    · exact .inl (h ▸ hb')
    · rw [h] at hb'; simp at hb'; exact .inr ⟨by omega, by omega, by omega⟩
  have hv3d : v3.ownBlock ≠ some d := fun e => by
    rcases hv3 d e with h | h
    · exact hlg.1 h
    · exact h.2.1 rfl
  refine ⟨v3, w3, hrun, ?_, frozen_of hd1 1, ?_, ⟨⟨?_, ?_, ?_⟩, ?_, fun b hb' => ?_⟩⟩
  · rw [cell_of hd1 1]; rfl
  · obtain ⟨_, ⟨rfl, _⟩ | ⟨g, cap, cur, rfl, _⟩⟩ := hown3 <;> rfl
  · have := heap_setCell_same hd1 1 v3
    simpa using this
  · rw [Below.heap_setCell _ _ _ _ (by exact fun e => hne e.symm)]; exact hb1
  · exact ownsRow_setCell_other hown3 (by exact hv3d) _
  · refine ((hu.alloc (.cells #[.int .i64 i, .string s] 218)).grown hgr (fun k hk _ => .inr (.inr hk))).setCell _ (fun _ => .inl rfl) _
  · rcases hv3 b hb' with h | h
    · exact .inl h
    · exact .inr h.1

set_option maxRecDepth 100000 in
set_option maxHeartbeats 2000000 in
theorem write_any {w : World} {d bb : Nat} {lg : Value} {S : Dsk} (h : DiskAt w d bb lg S) (hfit : S.Fit) (i : Int) (s : ByteArray) (hs : s.size ≤ 140737488355328) :
    Calls Tryz.prog 152 #[.pointer (some ⟨d, 0, none⟩), .int .i64 i, .string s] w fun e w' => ∃ lg', e = .returned (.int .i64 (S.write i s).1) ∧ DStp d bb lg lg' w w' (S.write i s).2 := by
  have hM := may_any h i
  have c0 := cell_of h.d 0
  have c1 := cell_of h.d 1
  have c2 := cell_of h.d 2
  have c3 := cell_of h.d 3
  have c4 := cell_of h.d 4
  have f1 := frozen_of h.d 1
  have f2 := frozen_of h.d 2
  have f4 := frozen_of h.d 4
  simp at c0 c1 c2 c3 c4
  have H := Lib.hid h
  have hdb : d ≠ bb := by
    intro e; have h1 := h.d; have h2 := h.bb; rw [e, h2] at h1; simp at h1
  by_cases h0 : S.may i ≠ 0
  · rw [show S.write i s = (S.may i, S) from if_pos h0]
    have hb : (S.may i != 0) = true := by simpa using h0
    generalize S.may i = m at *
    clear h
    go_enter Tryz.func152, Tryz.ntmps152
    go_wp2_with (go_at_call 148; refine hM.mono ?_; rintro e w' ⟨rfl, rfl⟩)
    go_ret
    exact ⟨_, rfl, H.out, Upd.refl _ _, fun b hb => .inl hb⟩
  · have h0' : S.may i = 0 := by omega
    have hmay : S.down = false ∧ 0 ≤ i ∧ i < S.blocks.length := by
      unfold Dsk.may Dsk.n at h0'
      split at h0'
      · simp at h0'
      · rename_i hdn
        split at h0'
        · simp at h0'
        · exact ⟨by simpa using hdn, by omega, by omega⟩
    obtain ⟨hdown, hi0, hi1⟩ := hmay
    rw [h0'] at hM
    by_cases h1 : s.size ≠ 256
    · rw [show S.write i s = (3, S) by unfold Dsk.write; rw [if_neg h0, if_pos h1]]
      have hb : ((s.size : Int) != 256) = true := by simp; omega
      clear h
      go_enter Tryz.func152, Tryz.ntmps152
      go_wp2_with (go_at_call 148; refine hM.mono ?_; rintro e w' ⟨rfl, rfl⟩)
      go_ret
      exact ⟨_, rfl, H.out, Upd.refl _ _, fun b hb => .inl hb⟩
    · have h1' : s.size = 256 := by omega
      by_cases h2 : S.told = true ∧ S.left = 0
      · rw [show S.write i s = (17, { S with down := true }) by unfold Dsk.write; rw [if_neg h0, if_neg h1, if_pos h2]]
        obtain ⟨ht, hl⟩ := h2
        rw [ht] at c3
        rw [hl] at c2
        have hset := heap_setCell_same h.d 4 (.bool true)
        simp at hset
        have HN : Hid (DiskAt (w.setCell ⟨d, 4, none⟩ (.bool true)) d bb lg { S with down := true }) := by
          refine ⟨hset, ?_, ?_⟩
          · rw [Below.heap_setCell _ _ _ _ (by exact fun e => hdb e.symm)]; exact h.bb
          · exact ownsRow_setCell_other h.lg (by exact (lg_ne h).1) _
        clear h hset h0 h0' h1
        go_enter Tryz.func152, Tryz.ntmps152
        go_wp2_with (go_at_call 148; refine hM.mono ?_; rintro e w' ⟨rfl, rfl⟩)
        go_ret
        exact ⟨_, rfl, HN.out, (Upd.refl _ _).setCell _ (fun _ => .inl rfl) _, fun b hb => .inl hb⟩
      · obtain ⟨k, rfl⟩ := Int.eq_ofNat_of_zero_le hi0
        have hk : k < S.blocks.length := by omega
        have hset := heap_setCell_same h.bb k (.string s)
        rw [show (S.blocks.map Value.string).toArray.setIfInBounds k (.string s) = ((S.blocks.set k s).map Value.string).toArray by simp [List.map_set]] at hset
        obtain ⟨sk, hsk⟩ : ∃ sk, sk = S.blocks[k] := ⟨_, rfl⟩
        have hcb : w.cell? ⟨bb, k, none⟩ = some (.string sk) := by rw [cell_of h.bb k, hsk]; simp [hk]
        have hfb := frozen_of h.bb k
        have hlg := lg_ne h
        cases ht : S.told with
        | false =>
          rw [show S.write k s = (0, { S with left := S.left, blocks := S.blocks.set k s, log := S.log ++ [((k : Int), s)] }) by unfold Dsk.write; rw [if_neg h0, if_neg h1, if_neg h2, ht]; simp]
          obtain ⟨v3, w3, hrun, hc3, hf3, hone, hstp⟩ := write_tail (w := w) (W0 := w.setCell ⟨bb, k, none⟩ (.string s)) (S := S) hdb hlg ((Upd.refl _ _).setCell _ (fun _ => .inr (.inl rfl)) _) hfit.log S.left (S.blocks.set k s) k s
            (by rw [Below.heap_setCell _ _ _ _ (by exact hdb), List.length_set]; exact h.d) hset (ownsRow_setCell_other h.lg (by exact hlg.2) _)
          obtain ⟨ao3, co3, rfl⟩ := ownsRow_slice hstp.at_.lg
          rw [List.length_append] at hstp hrun
          have HSTP := Lib.hid hstp
          simp only [World.size_setCell] at hrun
          have cl : (w.setCell ⟨bb, k, none⟩ (.string s)).cell? ⟨d, 1, none⟩ = some lg := by
            rw [World.cell?_of_block (a := ⟨d, 1, none⟩) (Below.heap_setCell _ _ _ _ (by exact hdb))]; exact c1
          rw [ht] at c3
          clear h hset h0 h0' h1 hstp H hfit h2 hlg hsk
          clear hk
          generalize S.blocks.length = M at *
          go_enter Tryz.func152, Tryz.ntmps152
          go_wp2_with (first
            | (go_at_call 148; refine hM.mono ?_; rintro e w' ⟨rfl, rfl⟩)
            | (at_builtin; refine wpList_append_run hrun rfl rfl rfl rfl rfl ?_))
          go_ret
          exact ⟨_, rfl, HSTP.out⟩
        | true =>
          have hl0 : S.left ≠ 0 := fun e => h2 ⟨ht, e⟩
          have hl1 := hfit.left ht
          rw [show S.write k s = (0, { S with left := S.left - 1, blocks := S.blocks.set k s, log := S.log ++ [((k : Int), s)] }) by unfold Dsk.write; rw [if_neg h0, if_neg h1, if_neg h2, ht]; simp]
          have hs2 := heap_setCell_same h.d 2 (.int .i64 (S.left - 1))
          simp at hs2
          have hb2 : (w.setCell ⟨d, 2, none⟩ (.int .i64 (S.left - 1))).heap[bb]? = some (.cells (S.blocks.map Value.string).toArray 9 (0, 0)) := by
            rw [Below.heap_setCell _ _ _ _ (by exact fun e => hdb e.symm)]; exact h.bb
          have hset2 := heap_setCell_same hb2 k (.string s)
          rw [show (S.blocks.map Value.string).toArray.setIfInBounds k (.string s) = ((S.blocks.set k s).map Value.string).toArray by simp [List.map_set]] at hset2
          have hr2 : (w.setCell ⟨d, 2, none⟩ (.int .i64 (S.left - 1))).ownsRow 0 218 2 lg S.log.length (pageCells S.log) := ownsRow_setCell_other h.lg (by exact hlg.1) _
          obtain ⟨v3, w3, hrun, hc3, hf3, hone, hstp⟩ := write_tail (w := w) (W0 := (w.setCell ⟨d, 2, none⟩ (.int .i64 (S.left - 1))).setCell ⟨bb, k, none⟩ (.string s)) (S := S) hdb hlg (((Upd.refl _ _).setCell _ (fun _ => .inl rfl) _).setCell _ (fun _ => .inr (.inl rfl)) _) hfit.log (S.left - 1) (S.blocks.set k s) k s
            (by rw [Below.heap_setCell _ _ _ _ (by exact hdb), List.length_set]; exact hs2) hset2 (ownsRow_setCell_other hr2 (by exact hlg.2) _)
          obtain ⟨ao3, co3, rfl⟩ := ownsRow_slice hstp.at_.lg
          rw [List.length_append] at hstp hrun
          have HSTP := Lib.hid hstp
          simp only [World.size_setCell] at hrun
          have cl : ((w.setCell ⟨d, 2, none⟩ (.int .i64 (S.left - 1))).setCell ⟨bb, k, none⟩ (.string s)).cell? ⟨d, 1, none⟩ = some lg := by
            rw [World.cell?_of_block (a := ⟨d, 1, none⟩) (Below.heap_setCell _ _ _ _ (by exact hdb)), cell_of hs2 1]; rfl
          have cd : (w.setCell ⟨d, 2, none⟩ (.int .i64 (S.left - 1))).cell? ⟨d, 0, none⟩ = some (.slice (some ⟨bb, 0, none⟩) S.blocks.length S.blocks.length) := by
            rw [cell_of hs2 0]; rfl
          have cb : (w.setCell ⟨d, 2, none⟩ (.int .i64 (S.left - 1))).cell? ⟨bb, k, none⟩ = some (.string sk) := by rw [cell_of hb2 k, hsk]; simp [hk]
          have fb : (w.setCell ⟨d, 2, none⟩ (.int .i64 (S.left - 1))).frozen? ⟨bb, k, none⟩ = false := frozen_of hb2 k
          have hlb : (S.left == 0) = false := by simpa using hl0
          rw [ht] at c3
          clear h hset h0 h0' h1 hstp H hfit h2 hlg hsk hs2 hb2 hset2 hr2
          clear hk
          generalize S.blocks.length = M at *
          generalize S.left = lf at *
          go_enter Tryz.func152, Tryz.ntmps152
          go_wp2_with (first
            | (go_at_call 148; refine hM.mono ?_; rintro e w' ⟨rfl, rfl⟩)
            | (at_builtin; refine wpList_append_run hrun rfl rfl rfl rfl rfl ?_))
          go_ret
          exact ⟨_, rfl, HSTP.out⟩
end
/-! Range -/
section
set_option linter.unusedSimpArgs false
set_option linter.unusedVariables false
open Go.RowKit Go.Maps Go.Shelf

abbrev Pgs := List (Int × ByteArray)
def encP (x : Int × ByteArray) : Value := .agg #[.int .i64 x.1, .string x.2]
def boxP (x : Int × ByteArray) : Obj := .cells #[.int .i64 x.1, .string x.2] 218 (0, 0)

/-- An iterator over the pages 'full': it hands them to the rounds of loop l, one behind the other, until a round says no; what a round that goes on keeps is Kp l. -/
def Yields (gf : Nat) (lb : Array Value) (full : Pgs) (Kp : Nat → World → World → Prop) (w0 : World) : Prop :=
  ∀ (n l : Nat) (J Jx : Pgs → World → Prop) (W : World), Below w0.heap.size w0 W → w0.heap.size ≤ l → l < W.heap.size → (∃ r, W.heap[l]? = some (.loop r)) → OwnFrom W.heap.size J → OwnFrom W.heap.size Jx →
    (∀ pre x W1, pre ++ [x] <+: full → J pre W1 → YieldAt Fence.wide (n - 1) Tryz.prog l #[encP x] W1 fun e W' =>
      (e = .returned (.bool true) ∧ J (pre ++ [x]) W' ∧ Kp l W1 W') ∨ (e = .returned (.bool false) ∧ Jx (pre ++ [x]) W' ∧ Kp l W1 W')) →
    J [] W →
    CallsIn Fence.wide n Tryz.prog gf (#[.func (.yield l) #[] #[]] ++ lb) W fun e W' => (∃ v, e = .returned v) ∧ (J full W' ∨ ∃ pre, Jx pre W')

/-- how the body of a round may be left -/
def roundEnds (B l : Nat) (Kp : Nat → World → World → Prop) (I Ix : Pgs → World → Prop) (xs : Pgs) (W : World) : Exit → Act → World → Prop
  | .normal, _, W' => KeepsFrom B W W' ∧ Kp l W W' ∧ I xs W'
  | .ret, _, W' => KeepsFrom B W W' ∧ Kp l W W' ∧ Ix xs W'
  | _, _, _ => False

theorem range_pages {n : Nat} {g : Operand} {p : Tmp} {assign body : Code} {Q : Exit → Act → World → Prop} {a : Act} {w w0 : World} {gf : Nat} {lb : Array Value} {full : Pgs} {Kp : Nat → World → World → Prop}
    (hg : a.eval g = .func (.func gf) #[] lb) (eg : ∀ args w, (callFunc gf args).run Tryz.prog w = .ok (.enter gf args) w)
    (hseq : Yields gf lb full Kp w0) (hb0 : Below w0.heap.size w0 w)
    (hKt : ∀ {l : Nat} {A B C : World}, Kp l A B → Kp l B C → Kp l A C)
    (hKp : ∀ (l : Nat) (W : World) (r : Loop) (o' : Obj), W.heap[l]? = some (.loop r) → Kp l W (W.putObj l o'))
    (hKa : ∀ (l : Nat) (W : World) (o : Obj), Kp l W (W.alloc o))
    (I Ix : Pgs → World → Prop) (hI : OwnFrom w.heap.size I) (hIx : OwnFrom w.heap.size Ix) (h0 : I [] w) (q : Tmp)
    (hassign : ∀ (l : Nat) (x : Int × ByteArray) (W : World) (K : Act → World → Prop), K { tmps := (a.tmps.setIfInBounds p (encP x)).setIfInBounds q (.pointer (some ⟨W.heap.size, 0, none⟩)), defers := [] } (W.alloc (boxP x)) →
      assign.wpIn (Fence.wide.inRound l) (n - 1 - 1) Tryz.prog (Exit.then K (fun _ _ _ => False)) { tmps := a.tmps.setIfInBounds p (encP x), defers := [] } W)
    (hbody : ∀ (l : Nat) (pre : Pgs) (x : Int × ByteArray) (B : Nat) (W : World), w.heap.size ≤ l → (∃ r, W.heap[l]? = some (.loop r)) → pre ++ [x] <+: full → I pre W → W.heap[B]? = some (boxP x) → w.heap.size ≤ B →
      body.wpIn (Fence.wide.inRound l) (n - 1 - 1) Tryz.prog (roundEnds w.heap.size l Kp I Ix (pre ++ [x]) W) { tmps := (a.tmps.setIfInBounds p (encP x)).setIfInBounds q (.pointer (some ⟨B, 0, none⟩)), defers := [] } W)
    (hdone : ∀ (D : Nat) (W : World), w.heap.size ≤ D → I full W → W.heap[D]? = some (.deferred (some [])) → Q .normal { a with defers := { target := .collected D, args := #[] } :: a.defers } W)
    (hstop : ∀ (D : Nat) (pre : Pgs) (W : World), w.heap.size ≤ D → Ix pre W → W.heap[D]? = some (.deferred (some [])) → Code.ret.wpIn Fence.wide n Tryz.prog Q { a with defers := { target := .collected D, args := #[] } :: a.defers } W) :
    (Code.rangeFunc g #[p] assign body).wpIn Fence.wide n Tryz.prog Q a w := by
  refine wpIn_rangeFunc fun fn hfn => ?_
  obtain ⟨rec, hrec⟩ : ∃ rec : LoopState → Option Code → Loop, rec = fun st pe => { state := st, pending := pe, fn, tmps := a.tmps, params := #[p], assign, body, defers := w.heap.size } := ⟨_, rfl⟩
  obtain ⟨W1, hW1⟩ : ∃ W1, (w.alloc (.deferred (some []))).alloc (.loop (rec .ready none)) = W1 := ⟨_, rfl⟩
  have hs1 : W1.heap.size = w.heap.size + 2 := by rw [← hW1]; simp
  have hbw : Below w.heap.size w W1 := by rw [← hW1]; exact ((Below.refl _ w).alloc (Nat.le_refl _) _).alloc (by simp) _
  -- the two blocks of the loop's own
  let Bk : LoopState → Option Code → World → Prop := fun st pe W => W.heap[w.heap.size + 1]? = some (.loop (rec st pe)) ∧ W.heap[w.heap.size]? = some (.deferred (some []))
  have hB1 : Bk .ready none W1 := by
    refine ⟨?_, ?_⟩
    · rw [← hW1]; have := World.alloc_heap_new (w.alloc (.deferred (some []))) (.loop (rec .ready none)); rwa [World.size_alloc] at this
    · rw [← hW1]; exact (Below.heap_alloc _ _ _ (by simp)).trans (World.alloc_heap_new w _)
  have hBkO : ∀ st pe (A B : World) (row : Option Nat), Bk st pe A → A.grownBy B row → (∀ r, row = some r → W1.heap.size ≤ r ∧ ∃ o : Obj, A.heap[r]? = some o ∧ o.isCells = false) → Bk st pe B := by
    intro st pe A B row h hgr hr
    have e1 := lt_of h.1
    exact ⟨(hgr.block _ e1 (fun e => by have := (hr _ e.symm).1; omega)).trans h.1, (hgr.block _ (by omega) (fun e => by have := (hr _ e.symm).1; omega)).trans h.2⟩
  have hI1 : I [] W1 := by rw [← hW1]; exact hI.alloc _ (hI.alloc _ h0)
  refine ⟨w.heap.size + 1, [{ target := .collected w.heap.size, args := #[] }], W1, { target := .fn (.func gf) lb, args := #[.func (.yield (w.heap.size + 1)) #[] #[]] }, W1, gf,
    #[.func (.yield (w.heap.size + 1)) #[] #[]] ++ lb, W1, ?_, ?_, fun _ _ => trivial, ?_, fun h => by simp [Fence.wide] at h, ?_⟩
  · rw [← hW1, hrec]; exact run_enterLoop_outer _ _ _ _ _
  · simp only [resolve, hg]
    simp [go_sem]
  · simp [invoke, go_sem, eg]
  · have hlow : ∀ {A : World} {row : Option Nat}, (∀ r, row = some r → W1.heap.size ≤ r ∧ ∃ o : Obj, A.heap[r]? = some o ∧ o.isCells = false) → (∀ r, row = some r → w.heap.size ≤ r ∧ ∃ o : Obj, A.heap[r]? = some o ∧ o.isCells = false) :=
      fun hr r e => ⟨by have := (hr r e).1; omega, (hr r e).2⟩
    refine (hseq (n - 1) (w.heap.size + 1) (fun pre W => I pre W ∧ Bk .ready none W) (fun pre W => Ix pre W ∧ Bk .done (some .ret) W) W1
      (hb0.trans (hbw.mono hb0.size)) (by have := hb0.size; omega) (by omega) ⟨_, hB1.1⟩
      (fun s A B row hs hgr hr => ⟨hI s A B row hs.1 hgr (hlow hr), hBkO _ _ A B row hs.2 hgr hr⟩)
      (fun s A B row hs hgr hr => ⟨hIx s A B row hs.1 hgr (hlow hr), hBkO _ _ A B row hs.2 hgr hr⟩) ?_ ⟨hI1, hB1⟩).mono ?_
    · -- one round
      rintro pre x W hpre ⟨hi, hl, hk⟩
      have hlt := lt_of hl
      have hy := run_yield (P := Tryz.prog) (args := #[encP x]) hl (by rw [hrec]; rfl)
      have hy2 : (Instr.yield (w.heap.size + 1) #[encP x]).run Tryz.prog W = .ok (.round (w.heap.size + 1) fn (a.tmps.setIfInBounds p (encP x)) assign body) W := by rw [hy, hrec]; simp
      refine ⟨fn, _, assign, body, hy2, roundIn_of_wpIn hfn ?_⟩
      clear hy hy2
      refine hassign _ x W _ ?_
      have hsz : (W.alloc (boxP x)).heap.size = W.heap.size + 1 := by simp
      have hl2 : (W.alloc (boxP x)).heap[w.heap.size + 1]? = some (.loop (rec .ready none)) := (Below.heap_alloc W _ _ hlt).trans hl
      have hk2 : (W.alloc (boxP x)).heap[w.heap.size]? = some (.deferred (some [])) := (Below.heap_alloc W _ _ (by omega)).trans hk
      have hi2 : I pre (W.alloc (boxP x)) := hI.alloc _ hi
      have hbx : (W.alloc (boxP x)).heap[W.heap.size]? = some (boxP x) := heap_alloc_new' W _
      have hka := hKa (w.heap.size + 1) W (boxP x)
      have hBW : w.heap.size ≤ W.heap.size := by omega
      generalize W.alloc (boxP x) = Wa at *
      refine ⟨_, run_beginRound hl2 (by rw [hrec]), ?_⟩
      obtain ⟨o3, ho3⟩ : ∃ o3, Obj.loop { rec .ready none with state := .busy } = o3 := ⟨_, rfl⟩
      have hl3 : (Wa.putObj (w.heap.size + 1) o3).heap[w.heap.size + 1]? = some o3 := World.putObj_heap_same (lt_of hl2)
      have hk3 : (Wa.putObj (w.heap.size + 1) o3).heap[w.heap.size]? = some (.deferred (some [])) := (World.putObj_heap_other (by omega)).trans hk2
      have hbx3 : (Wa.putObj (w.heap.size + 1) o3).heap[W.heap.size]? = some (boxP x) := (World.putObj_heap_other (by omega)).trans hbx
      have hkp := hKp (w.heap.size + 1) Wa _ o3 hl2
      have hi3 : I pre (Wa.putObj (w.heap.size + 1) o3) := hI.putObj _ hi2 (by omega) hl2 rfl
      rw [ho3]
      refine wpIn_mono (hbody (w.heap.size + 1) pre x W.heap.size _ (by omega) ⟨_, by rw [hl3, ← ho3]⟩ hpre hi3 hbx3 hBW) ?_
      have fin : ∀ (jump : Option Code) (W3 : World), KeepsFrom w.heap.size (Wa.putObj (w.heap.size + 1) o3) W3 →
          ∃ o4, (Instr.endRound (w.heap.size + 1) jump).run Tryz.prog W3 = .ok (.bool jump.isNone) (W3.putObj (w.heap.size + 1) o4) ∧ o4 = .loop (rec (if jump.isNone then .ready else .done) jump) ∧
          (∃ r, W3.heap[w.heap.size + 1]? = some (.loop r)) ∧ W3.heap[w.heap.size]? = some (.deferred (some [])) := fun jump W3 hk3' => by
        have h4 := hk3'.same _ _ (by omega) hl3 (by rw [← ho3]; rfl)
        rw [← ho3] at h4
        have := run_endRound (P := Tryz.prog) jump h4
        exact ⟨_, this, by rw [hrec], ⟨_, h4⟩, hk3'.same _ _ (Nat.le_refl _) hk3 rfl⟩
      rintro e a3 W3 hp
      cases e with
      | normal =>
        obtain ⟨hkf, hkp3, hi4⟩ := hp
        obtain ⟨o4, hr, ho4, ⟨r4, hl4⟩, hk4⟩ := fin none W3 hkf
        refine ⟨_, _, hr, .inl ⟨rfl, ⟨hI.putObj _ hi4 (by omega) hl4 rfl, ?_, (World.putObj_heap_other (by omega)).trans hk4⟩, hKt hka (hKt hkp (hKt hkp3 (hKp _ _ _ _ hl4)))⟩⟩
        rw [World.putObj_heap_same (lt_of hl4), ho4]; rfl
      | ret =>
        obtain ⟨hkf, hkp3, hi4⟩ := hp
        obtain ⟨o4, hr, ho4, ⟨r4, hl4⟩, hk4⟩ := fin (some .ret) W3 hkf
        refine ⟨_, _, hr, .inr ⟨rfl, ⟨hIx.putObj _ hi4 (by omega) hl4 rfl, ?_, (World.putObj_heap_other (by omega)).trans hk4⟩, hKt hka (hKt hkp (hKt hkp3 (hKp _ _ _ _ hl4)))⟩⟩
        rw [World.putObj_heap_same (lt_of hl4), ho4]; rfl
      | exit id => exact hp.elim
      | goto t => exact hp.elim
      | panic ch => exact hp.elim
      | outgrown => exact hp.elim
    · -- behind the iterator
      rintro e W2 ⟨⟨v, rfl⟩, ⟨hi, hl, hk⟩ | ⟨pre, hi, hl, hk⟩⟩
      · exact ⟨none, _, by have := run_endLoop (P := Tryz.prog) hl (by rw [hrec]; simp); rw [hrec] at this; exact this, hdone _ _ (Nat.le_refl _) (hI.putObj _ hi (by omega) hl rfl) ((World.putObj_heap_other (by omega)).trans hk)⟩
      · exact ⟨some .ret, _, by have := run_endLoop (P := Tryz.prog) hl (by rw [hrec]; simp); rw [hrec] at this; exact this, hstop _ pre _ (Nat.le_refl _) (hIx.putObj _ hi (by omega) hl rfl) ((World.putObj_heap_other (by omega)).trans hk)⟩
/-- a round at the wide fence, from wherever yield is called -/
theorem round_any {n n' l l' : Nat} {f : FuncId} {tmps : Array Value} {assign body : Code} {w : World} {R : Ending → World → Prop} (h : RoundIn Fence.wide n Tryz.prog l f tmps assign body w R) :
    RoundIn (Fence.wide.inRound l') n' Tryz.prog l f tmps assign body w R := ⟨trivial, fun c cs _ => h.2 c cs (room_wide _)⟩
end
/-! Jour -/
section
set_option linter.unusedSimpArgs false
set_option linter.unusedVariables false
open Go.RowKit Go.Maps Go.Shelf

theorem wide_room (n : Nat) : (Fence.wide.depth.isSome = true → 1 ≤ n) ↔ True := by simp [Fence.wide]
theorem wide_fn (k : Nat) : Fence.wide.fn k ↔ True := Iff.rfl
theorem wide_room_in (l n : Nat) : ((Fence.wide.inRound l).depth.isSome = true → 1 ≤ n) ↔ True := by simp [Fence.wide]
theorem wide_fn_in (l k : Nat) : (Fence.wide.inRound l).fn k ↔ True := Iff.rfl
attribute [local go_sem] Oper.semAt_some wide_room wide_fn wide_room_in wide_fn_in

/-- the disk has turned into another; what is neither its blocks nor X lies as it lay -/
def KD (d bb : Nat) (X : Nat → Prop) (W W' : World) : Prop :=
  ∀ lg S, DiskAt W d bb lg S → ∃ lg' S', DiskAt W' d bb lg' S' ∧ W.heap.size ≤ W'.heap.size ∧
    (∀ b o, W.heap[b]? = some o → ¬ dfp d bb lg b → ¬ X b → W'.heap[b]? = some o) ∧ (∀ b, lg'.ownBlock = some b → lg.ownBlock = some b ∨ W.heap.size ≤ b)

theorem KD.trans {d bb : Nat} {X : Nat → Prop} {A B C : World} (h : KD d bb X A B) (k : KD d bb X B C) : KD d bb X A C := by
  intro lg S hS
  obtain ⟨lg1, S1, h1, hs1, hf1, hl1⟩ := h lg S hS
  obtain ⟨lg2, S2, h2, hs2, hf2, hl2⟩ := k lg1 S1 h1
  refine ⟨lg2, S2, h2, by omega, fun b o hb hd hx => hf2 b o (hf1 b o hb hd hx) (fun hd1 => ?_) hx, fun b hb => ?_⟩
  · rcases hd1 with h | h | h
    · exact hd (.inl h)
    · exact hd (.inr (.inl h))
    · rcases hl1 b h with h | h
      · exact hd (.inr (.inr h))
      · have := lt_of hb; omega
  · rcases hl2 b hb with h | h
    · exact hl1 b h
    · exact .inr (by omega)
theorem KD.mono {d bb : Nat} {X Y : Nat → Prop} {A B : World} (h : KD d bb X A B) (hx : ∀ b, X b → Y b) : KD d bb Y A B := by
  intro lg S hS
  obtain ⟨lg1, S1, h1, hs1, hf1, hl1⟩ := h lg S hS
  exact ⟨lg1, S1, h1, hs1, fun b o hb hd hy => hf1 b o hb hd (fun hx' => hy (hx b hx')), hl1⟩
theorem DiskAt.below {w w' : World} {d bb : Nat} {lg : Value} {S : Dsk} (h : DiskAt w d bb lg S) (hB : Below w.heap.size w w') : DiskAt w' d bb lg S :=
  h.keep fun b _ _ _ hb _ _ => hB.block b (lt_of hb)
theorem KD.below {d bb : Nat} {X : Nat → Prop} {W W' : World} (hB : Below W.heap.size W W') : KD d bb X W W' := fun lg S hS =>
  ⟨lg, S, hS.below hB, hB.size, fun b o hb _ _ => (hB.block b (lt_of hb)).trans hb, fun b hb => .inl hb⟩
theorem KD.alloc {d bb : Nat} {X : Nat → Prop} (W : World) (o : Obj) : KD d bb X W (W.alloc o) := .below ((Below.refl _ W).alloc (Nat.le_refl _) o)
theorem KD.loop {d bb : Nat} {X : Nat → Prop} {W : World} {l : Nat} {r : Loop} (o' : Obj) (hl : W.heap[l]? = some (.loop r)) (hx : X l) : KD d bb X W (W.putObj l o') := by
  intro lg S hS
  refine ⟨lg, S, hS.keep fun b cs T f hb _ _ => World.putObj_heap_other (fun e => by rw [e, hl] at hb; simp at hb), by simp, fun b o hb _ hb' => ?_, fun b hb => .inl hb⟩
  exact (World.putObj_heap_other (fun e => hb' (by rw [e]; exact hx))).trans hb
theorem diskAt_lg {w : World} {d bb : Nat} {lg lg' : Value} {S S' : Dsk} (h : DiskAt w d bb lg S) (h' : DiskAt w d bb lg' S') : lg = lg' := by
  have e := h.d
  rw [h'.d] at e
  simp at e
  exact e.2.1.symm
theorem KD.stp {d bb : Nat} {X : Nat → Prop} {w w' : World} {lg lg' : Value} {S S' : Dsk} (h : DiskAt w d bb lg S) (k : DStp d bb lg lg' w w' S') : KD d bb X w w' := by
  intro lg1 S1 h1
  obtain rfl := diskAt_lg h h1
  exact ⟨lg', S', k.at_, k.upd.size, fun b o hb hd _ => (k.upd.block b (lt_of hb) hd).trans hb, k.log⟩

/-- the disk, and blocks of others that lie apart from it -/
def Safe (d bb : Nat) (X : Nat → Prop) (W : World) (ps : List (Nat × Obj)) : Prop :=
  ∃ lg S, DiskAt W d bb lg S ∧ ∀ p ∈ ps, W.heap[p.1]? = some p.2 ∧ ¬ dfp d bb lg p.1 ∧ ¬ X p.1
theorem Safe.kd {d bb : Nat} {X : Nat → Prop} {W W' : World} {ps : List (Nat × Obj)} (h : Safe d bb X W ps) (k : KD d bb X W W') : Safe d bb X W' ps := by
  obtain ⟨lg, S, hS, hp⟩ := h
  obtain ⟨lg1, S1, h1, hs1, hf1, hl1⟩ := k lg S hS
  refine ⟨lg1, S1, h1, fun p hpm => ?_⟩
  obtain ⟨ho, hd, hx⟩ := hp p hpm
  refine ⟨hf1 _ _ ho hd hx, fun hd1 => ?_, hx⟩
  rcases hd1 with h | h | h
  · exact hd (.inl h)
  · exact hd (.inr (.inl h))
  · rcases hl1 _ h with h | h
    · exact hd (.inr (.inr h))
    · have := lt_of ho; omega
theorem Safe.sub {d bb : Nat} {X : Nat → Prop} {W : World} {ps qs : List (Nat × Obj)} (h : Safe d bb X W ps) (hq : ∀ p ∈ qs, p ∈ ps) : Safe d bb X W qs := by
  obtain ⟨lg, S, hS, hp⟩ := h
  exact ⟨lg, S, hS, fun p hpm => hp p (hq p hpm)⟩
theorem Safe.obj {d bb : Nat} {X : Nat → Prop} {W : World} {ps : List (Nat × Obj)} (h : Safe d bb X W ps) {b : Nat} {o : Obj} (hm : (b, o) ∈ ps) : W.heap[b]? = some o := by
  obtain ⟨lg, S, hS, hp⟩ := h
  exact (hp _ hm).1
theorem Safe.also {d bb : Nat} {X Y : Nat → Prop} {W : World} {ps : List (Nat × Obj)} (h : Safe d bb X W ps) (hY : ∀ p ∈ ps, ¬ Y p.1) : Safe d bb (fun b => Y b ∨ X b) W ps := by
  obtain ⟨lg, S, hS, hp⟩ := h
  exact ⟨lg, S, hS, fun p hpm => ⟨(hp p hpm).1, (hp p hpm).2.1, fun hx => hx.elim (hY p hpm) (hp p hpm).2.2⟩⟩
/-- a block that is newer than a world in which all was safe -/
theorem Safe.add {d bb : Nat} {X : Nat → Prop} {W W' : World} {ps : List (Nat × Obj)} (h : Safe d bb X W ps) (hB : Below W.heap.size W W') (hX : ∀ b, X b → b < W.heap.size) {b : Nat} {o : Obj} (hb : W.heap.size ≤ b) (ho : W'.heap[b]? = some o) : Safe d bb X W' ((b, o) :: ps) := by
  have h2 := h.kd (KD.below (X := X) hB)
  obtain ⟨lg0, S0, hS0, _⟩ := h
  obtain ⟨lg, S, hS, hp⟩ := h2
  obtain rfl := diskAt_lg (hS0.below hB) hS
  refine ⟨lg0, S, hS, fun p hpm => ?_⟩
  rcases List.mem_cons.1 hpm with rfl | hpm
  · refine ⟨ho, fun hd => ?_, fun hx => by have := hX _ hx; simp at this; omega⟩
    have := hS0.fp_lt hd
    simp at this
    omega
  · exact hp p hpm

theorem OwnFrom.made {β : Type} {B : Nat} {I : β → World → Prop} (h : OwnFrom B I) {s : β} {W W' : World} (hs : I s W) (hB : Below W.heap.size W W') : I s W' :=
  h s W W' none hs ⟨hB.os, hB.tape, hB.output, hB.size, fun k hk _ => hB.block k hk⟩ (fun r e => by cases e)

/-- the object of a slice of pages -/
def RowP (o : Obj) (l : Pgs) : Prop := ∃ cs T f, o = .cells cs T f ∧ ∀ i (h : i < l.length), cs[i * 2]? = some (.int .i64 l[i].1) ∧ cs[i * 2 + 1]? = some (.string l[i].2)
theorem RowP.cell {o : Obj} {l : Pgs} (h : RowP o l) {w : World} {g : Nat} (hg : w.heap[g]? = some o) {i : Nat} (hi : i < l.length) : w.cell? ⟨g, i * 2, none⟩ = some (.int .i64 l[i].1) ∧ w.cell? ⟨g, i * 2 + 1, none⟩ = some (.string l[i].2) := by
  obtain ⟨cs, T, f, rfl, hc⟩ := h
  rw [cell_of hg, cell_of hg]
  exact hc i hi

def homeL (l : Pgs) : Pgs := l ++ [(1, fill ⟨#[]⟩)]

set_option maxRecDepth 100000 in
set_option maxHeartbeats 4000000 in
theorem home1_yields {d bb : Nat} {X : Nat → Prop} {l : Pgs} {w0 : World} {Bl g cap : Nat} {oB og : Obj} (hoB : oB = .cells #[.slice (some ⟨g, 0, none⟩) l.length cap] 110 (0, 0)) (hog : RowP og l) (hn : l.length ≤ 4096)
    (hS : Safe d bb X w0 [(Bl, oB), (g, og)]) :
    Yields 153 #[.pointer (some ⟨Bl, 0, none⟩)] (homeL l) (fun l2 => KD d bb (fun b => b = l2 ∨ X b)) w0 := by
  intro n l2 J Jx W hB hl2 hlt2 hrec hJ hJx hY h0
  have hSW : Safe d bb (fun b => b = l2 ∨ X b) W [(Bl, oB), (g, og)] := by
    refine (hS.kd (KD.below hB)).also (Y := fun b => b = l2) ?_
    intro p hp e
    have hb := lt_of (hS.obj (b := p.1) (o := p.2) hp)
    omega
  have cB := cell_of ((hSW.obj (b := Bl) (o := oB) (by simp)).trans (by rw [hoB])) 0
  simp at cB
  have hSg : Safe d bb (fun b => b = l2 ∨ X b) W [(g, og)] := hSW.sub (by simp)
  clear hSW hS hoB
  obtain ⟨N, hN⟩ : ∃ N, N = l.length := ⟨_, rfl⟩
  rw [← hN] at cB hn
  refine callsIn_of_wp Tryz.func153 rfl trivial ?_ rfl
  simp only [Tryz.ntmps153, List.size_toArray, List.length_cons, List.length_nil, Nat.reduceAdd, Nat.reduceSub, Array.replicate_succ, Array.replicate_zero, List.push_toArray, List.append_toArray, List.nil_append, List.cons_append]
  gi_wp2
  gi_loopw [7] (fun u wr => ∃ j : Nat, u = .int .i64 j ∧ j ≤ N ∧ J (l.take j) wr ∧ Safe d bb (fun b => b = l2 ∨ X b) wr [(g, og)] ∧ W.heap.size ≤ wr.heap.size) (fun u _ => N - (intOf u).toNat)
  case atStart => exact ⟨0, rfl, by omega, h0, hSg, Nat.le_refl _⟩
  case round =>
    obtain ⟨j, rfl, hj, hJj, hSj, hszj⟩ := hrel
    clear hSg h0
    by_cases hlt : j < N
    · have hlt' : j < l.length := by omega
      obtain ⟨hb0, hb1⟩ := hog.cell (hSj.obj (b := g) (o := og) (by simp)) hlt'
      have hpre : l.take j ++ [l[j]] <+: homeL l := by
        rw [← List.take_succ_eq_append_getElem hlt']
        exact (List.take_prefix _ _).trans (List.prefix_append _ _)
      have htk : l.take (j + 1) = l.take j ++ [l[j]] := List.take_succ_eq_append_getElem hlt'
      have hJ2 : J (l.take j) (wr.alloc (boxP l[j])) := hJ.alloc _ hJj
      obtain ⟨fn, tmps, assign, body, hy, hR⟩ := hY (l.take j) l[j] _ hpre hJ2
      have hS2 := hSj.kd (KD.alloc wr (boxP l[j]))
      unfold encP at hy
      unfold boxP at hy hR hS2
      rw [← htk] at hR
      clear hpre htk hJ2 hJj hSj
      generalize l[j].1 = y at *
      generalize l[j].2 = x at *
      gi_wp2
      refine hR.mono ?_
      rintro e W3 (⟨rfl, hJ3, hk3⟩ | ⟨rfl, hJx3, _⟩)
      · have hS3 := hS2.kd hk3
        have hz3 : W.heap.size ≤ W3.heap.size := by
          obtain ⟨lg, S, hD, _⟩ := hS2
          obtain ⟨_, _, _, h, _⟩ := hk3 lg S hD
          simp at h
          omega
        clear hk3 hS2
        gi_wp2
        go_roundw
        case rel => exact ⟨j + 1, rfl, by omega, hJ3, hS3, hz3⟩
        case measure => simp [intOf]; omega
      · gi_wp2
        refine bodyPost_ret (results_none rfl _ _ _) rfl ?_
        exact ⟨⟨_, rfl⟩, .inr ⟨_, hJx3⟩⟩
    · obtain rfl : j = N := by omega
      rw [List.take_of_length_le (by omega)] at hJj
      have hfi := filled_any ⟨#[]⟩ wr (by decide)
      have HF : Hid (∀ W3, Below wr.heap.size wr W3 → J l W3) := fun W3 h3 => hJ _ _ _ none hJj ⟨h3.os, h3.tape, h3.output, h3.size, fun k hk _ => h3.block k hk⟩ (fun r e => by cases e)
      clear hJj hSj
      gi_wp2
      refine (callsIn_wide.2 hfi).mono ?_
      rintro e W3 ⟨rfl, hB3⟩
      have hJ3 := HF.out W3 hB3
      obtain ⟨fn, tmps, assign, body, hy, hR⟩ := hY l (1, fill ⟨#[]⟩) W3 (List.prefix_refl _) hJ3
      unfold encP at hy
      have hho : l ++ [(1, fill ⟨#[]⟩)] = homeL l := rfl
      rw [hho] at hR
      clear HF hB3 hfi hJ3 hho
      generalize fill ⟨#[]⟩ = fe at *
      gi_wp2
      refine hR.mono ?_
      rintro e W4 (⟨rfl, hJ4, hk4⟩ | ⟨rfl, hJx4, _⟩)
      · gi_wp2
        go_end0
        exact ⟨⟨_, rfl⟩, .inl hJ4⟩
      · gi_wp2
        go_end0
        exact ⟨⟨_, rfl⟩, .inr ⟨_, hJx4⟩⟩
end
/-! JWrite -/
section
set_option linter.unusedSimpArgs false
set_option linter.unusedVariables false
open Go.RowKit Go.Maps Go.Shelf

attribute [local go_sem] Oper.semAt_some wide_room wide_fn wide_room_in wide_fn_in

def Dsk.writes : Dsk → Pgs → Int × Dsk
  | S, [] => (0, S)
  | S, p :: r => if (S.write p.1 p.2).1 ≠ 0 then S.write p.1 p.2 else (S.write p.1 p.2).2.writes r
theorem Dsk.writes_snoc (p : Int × ByteArray) : ∀ (l : Pgs) (S : Dsk), (S.writes l).1 = 0 → S.writes (l ++ [p]) = (S.writes l).2.write p.1 p.2
  | [], S, _ => by
    simp only [List.nil_append, Dsk.writes]
    split
    · rfl
    · rename_i h; have h : (S.write p.1 p.2).1 = 0 := by simpa using h
      rw [← h]
  | q :: r, S, h => by
    simp only [List.cons_append, Dsk.writes] at h ⊢
    split
    · rename_i h'; rw [if_pos h'] at h; exact absurd h h'
    · rename_i h'; rw [if_neg h'] at h; exact Dsk.writes_snoc p r _ h
theorem Dsk.writes_stop : ∀ (l r : Pgs) (S : Dsk), (S.writes l).1 ≠ 0 → S.writes (l ++ r) = S.writes l
  | [], r, S, h => by simp [Dsk.writes] at h
  | q :: l, r, S, h => by
    simp only [List.cons_append, Dsk.writes] at h ⊢
    split
    · rfl
    · rename_i h'; rw [if_neg h'] at h; exact Dsk.writes_stop l r _ h
theorem Dsk.write_log (S : Dsk) (i : Int) (s : ByteArray) : (S.write i s).2.log.length ≤ S.log.length + 1 := by
  unfold Dsk.write
  split
  · simp
  · split
    · simp
    · split
      · simp
      · simp
theorem Dsk.write_left (S : Dsk) (i : Int) (s : ByteArray) (h : S.told = true → 0 ≤ S.left ∧ S.left < 9223372036854775808) : (S.write i s).2.told = true → 0 ≤ (S.write i s).2.left ∧ (S.write i s).2.left < 9223372036854775808 := by
  unfold Dsk.write
  split
  · exact h
  · split
    · exact h
    · split
      · exact h
      · rename_i hn
        intro ht
        simp only at ht ⊢
        have := h ht
        rw [if_pos ht]
        have : S.left ≠ 0 := fun e => hn ⟨ht, e⟩
        omega
theorem Dsk.writes_log : ∀ (l : Pgs) (S : Dsk), (S.writes l).2.log.length ≤ S.log.length + l.length
  | [], S => by simp [Dsk.writes]
  | q :: l, S => by
    have h1 := S.write_log q.1 q.2
    simp only [Dsk.writes]
    split
    · simp; omega
    · have := Dsk.writes_log l (S.write q.1 q.2).2
      simp; omega
theorem Dsk.writes_left : ∀ (l : Pgs) (S : Dsk), (S.told = true → 0 ≤ S.left ∧ S.left < 9223372036854775808) → (S.writes l).2.told = true → 0 ≤ (S.writes l).2.left ∧ (S.writes l).2.left < 9223372036854775808
  | [], S, h => h
  | q :: l, S, h => by
    have h1 := S.write_left q.1 q.2 h
    simp only [Dsk.writes]
    split
    · exact h1
    · exact Dsk.writes_left l _ h1

theorem DStp.own {β : Type} {d bb B : Nat} {lg : Value} {w : World} (hB : w.heap.size ≤ B) (f : β → Dsk) : OwnFrom B (fun (s : β) W => ∃ lg', DStp d bb lg lg' w W (f s)) := by
  intro s W W' row hs hg hr
  obtain ⟨lg', hat, hup, hlg⟩ := hs
  refine ⟨lg', hat.keep fun b cs T f hb _ _ => hg.block b (lt_of hb) (fun e => ?_), ⟨hg.os.trans hup.os, hg.tape.trans hup.tape, hg.output.trans hup.output, Nat.le_trans hup.size hg.size, fun b hb hn => (hg.block b (Nat.lt_of_lt_of_le hb hup.size) (fun e => ?_)).trans (hup.block b hb hn)⟩, hlg⟩
  · obtain ⟨_, o', ho', hn⟩ := hr b e.symm
    rw [hb] at ho'; simp at ho'; subst ho'; simp [Obj.isCells] at hn
  · have := (hr b e.symm).1; omega
theorem DStp.then {d bb : Nat} {lg lg1 lg2 : Value} {w w1 w2 : World} {S1 S2 : Dsk} (h : DStp d bb lg lg1 w w1 S1) (k : DStp d bb lg1 lg2 w1 w2 S2) : DStp d bb lg lg2 w w2 S2 := by
  refine ⟨k.at_, h.upd.then k.upd (fun x hx hd => ?_), fun b hb => ?_⟩
  · rcases hd with h' | h' | h'
    · exact .inl h'
    · exact .inr (.inl h')
    · rcases h.log x h' with h2 | h2
      · exact .inr (.inr h2)
      · omega
  · rcases k.log b hb with h' | h'
    · exact h.log b h'
    · exact .inr (Nat.le_trans h.upd.size h')
theorem DStp.made {d bb : Nat} {lg lg1 : Value} {w w1 w2 : World} {S1 : Dsk} (h : DStp d bb lg lg1 w w1 S1) (hB : Below w1.heap.size w1 w2) : DStp d bb lg lg1 w w2 S1 :=
  ⟨h.at_.below hB, h.upd.then (Upd.below hB (F := fun b => w1.heap.size ≤ b) (fun x hx hle => hle)) (fun x hx hle => by have := h.upd.size; omega), h.log⟩

theorem boxed_ne {W : World} {d bb : Nat} {lg : Value} {S : Dsk} (hD : DiskAt W d bb lg S) {b : Nat} {v : Value} {T : TypeId} (hb : Boxed W b T v) (h1 : T ≠ 112) (h2 : T ≠ 9) (h3 : T ≠ 218) : ¬ dfp d bb lg b := by
  intro hd
  obtain ⟨cs, T', hb', hT⟩ := hD.fp_cells hd
  rw [show W.heap[b]? = _ from hb] at hb'
  simp at hb'
  obtain ⟨_, rfl⟩ := hb'
  rcases hT with h | h | h
  · exact h1 h
  · exact h2 h
  · exact h3 h
theorem DiskAt.set {W : World} {d bb : Nat} {lg : Value} {S : Dsk} (hD : DiskAt W d bb lg S) {b : Nat} (hb : ¬ dfp d bb lg b) (i : Nat) (v : Value) : DiskAt (W.setCell ⟨b, i, none⟩ v) d bb lg S :=
  hD.keep fun b' _ _ _ _ _ hd => Below.heap_setCell _ _ _ _ (fun e => hb (by rw [← show b' = b from e]; exact hd))
theorem KD.set {W : World} {d bb b : Nat} {X : Nat → Prop} (hX : X b) (hn : ∀ lg S, DiskAt W d bb lg S → ¬ dfp d bb lg b) (i : Nat) (v : Value) : KD d bb X W (W.setCell ⟨b, i, none⟩ v) := fun lg S hS =>
  ⟨lg, S, hS.set (hn lg S hS) i v, by simp, fun b' o hb' _ hx => (Below.heap_setCell _ _ _ _ (fun e => hx (by rw [show b' = b from e]; exact hX))).trans hb', fun b' hb' => .inl hb'⟩
theorem DStp.set {d bb b : Nat} {lg lg1 : Value} {w W : World} {S1 : Dsk} (h : DStp d bb lg lg1 w W S1) (hb : ¬ dfp d bb lg1 b) (hge : w.heap.size ≤ b) (i : Nat) (v : Value) : DStp d bb lg lg1 w (W.setCell ⟨b, i, none⟩ v) S1 :=
  ⟨h.at_.set hb i v, h.upd.setCell _ (fun hlt => by have : b < w.heap.size := hlt; omega) _, h.log⟩
theorem results_one {fn : Func} {p : Tmp} {ty : TypeId} (h : fn.results = #[.cell p ty]) {P : Program} {k : TypeDesc} (hu : P.underlying ty = some k) (hk : (match k with | .struct _ | .array _ _ => true | _ => false) = false) (tmps : Array Value) (w : World) (g : Nat) (v : Value)
    (hp : tmps.getD p undef = .pointer (some ⟨g, 0, none⟩)) (hc : w.cell? ⟨g, 0, none⟩ = some v) : (results fn tmps).run P w = .ok v w := by
  have hp' : tmps[p]?.getD undef = .pointer (some ⟨g, 0, none⟩) := by simpa using hp
  simp only [results, h]
  cases k <;> simp_all [asAddr, loadVar, isAgg, run_underlying hu]

set_option maxRecDepth 100000 in
set_option maxHeartbeats 4000000 in
theorem jwrite_any {w : World} {d bb : Nat} {lg : Value} {S : Dsk} (h : DiskAt w d bb lg S) (hleft : S.told = true → 0 ≤ S.left ∧ S.left < 9223372036854775808) {gf : Nat} {lb : Array Value} {fn : Func} (full : Pgs) (hlog : S.log.length + full.length < 1000000000000) (hsz : ∀ q ∈ full, q.2.size ≤ 140737488355328)
    (eg : ∀ args w, (callFunc gf args).run Tryz.prog w = .ok (.enter gf args) w) (hseq : ∀ w', Below w.heap.size w w' → w.heap.size + 2 ≤ w'.heap.size → Yields gf lb full (fun l => KD d bb (fun b => b = l ∨ b = w.heap.size + 1)) w') :
    Calls Tryz.prog 104 #[.pointer (some ⟨d, 0, none⟩), .func (.func gf) #[] lb] w fun e w' => e = .returned (.int .i64 (S.writes full).1) ∧ ∃ lg', DStp d bb lg lg' w w' (S.writes full).2 := by
  have hD0 : DStp d bb lg lg w w S := ⟨h, Upd.refl _ _, fun b hb => .inl hb⟩
  refine (callsIn_wide (n := 9)).1 ?_
  refine callsIn_of_wp_marks Tryz.func104 rfl trivial ?_ rfl
  simp only [Tryz.ntmps104, List.size_toArray, List.length_cons, List.length_nil, Nat.reduceAdd, Nat.reduceSub, Array.replicate_succ, Array.replicate_zero, List.push_toArray, List.append_toArray, List.nil_append, List.cons_append]
  gi_wp2
  have hw2 : ((w.alloc (.cells #[.pointer (some ⟨d, 0, none⟩)] 62)).alloc (.cells #[.int .i64 0] 26)).heap.size = w.heap.size + 2 := by simp
  have hbel : Below w.heap.size w ((w.alloc (.cells #[.pointer (some ⟨d, 0, none⟩)] 62)).alloc (.cells #[.int .i64 0] 26)) := ((Below.refl _ w).alloc (Nat.le_refl _) _).alloc (by simp) _
  have bx2 : Boxed ((w.alloc (.cells #[.pointer (some ⟨d, 0, none⟩)] 62)).alloc (.cells #[.int .i64 0] 26)) w.heap.size 62 (.pointer (some ⟨d, 0, none⟩)) := (Boxed.new w _ _).alloc _
  have bx4 : Boxed ((w.alloc (.cells #[.pointer (some ⟨d, 0, none⟩)] 62)).alloc (.cells #[.int .i64 0] 26)) (w.heap.size + 1) 26 (.int .i64 0) := by
    have := Boxed.new (w.alloc (.cells #[.pointer (some ⟨d, 0, none⟩)] 62)) 26 (.int .i64 0)
    rwa [World.size_alloc] at this
  generalize hw1 : (w.alloc (.cells #[.pointer (some ⟨d, 0, none⟩)] 62)).alloc (.cells #[.int .i64 0] 26) = w1 at *
  clear hw1
  refine range_pages (w0 := w1) (gf := gf) (lb := lb) rfl eg (hseq w1 hbel (by omega)) (Below.refl _ _) (fun h k => h.trans k) (fun l W r o' h => KD.loop o' h (.inl rfl)) (fun l W o => KD.alloc W o)
    (fun pre W' => (S.writes pre).1 = 0 ∧ (∃ lg', DStp d bb lg lg' w W' (S.writes pre).2) ∧ Boxed W' w.heap.size 62 (.pointer (some ⟨d, 0, none⟩)) ∧ Boxed W' (w.heap.size + 1) 26 (.int .i64 0))
    (fun pre W' => (S.writes pre).1 ≠ 0 ∧ pre <+: full ∧ (∃ lg', DStp d bb lg lg' w W' (S.writes pre).2) ∧ Boxed W' (w.heap.size + 1) 26 (.int .i64 (S.writes pre).1))
    (OwnFrom.and (ownFrom_pure _ _) (OwnFrom.and (DStp.own (by omega) (fun pre => (S.writes pre).2)) (OwnFrom.and (Own.from (boxed_own _ _ _) _) (Own.from (boxed_own _ _ _) _))))
    (OwnFrom.and (ownFrom_pure _ _) (OwnFrom.and (ownFrom_pure _ _) (OwnFrom.and (DStp.own (by omega) (fun pre => (S.writes pre).2)) (Own.from (boxed_own _ _ (fun pre => .int .i64 (S.writes pre).1)) _))))
    ⟨rfl, ⟨lg, hD0.made hbel⟩, bx2, bx4⟩ 5 ?assign ?body ?done ?stop
  case assign =>
    intro l x W' K hK
    unfold encP boxP at hK
    unfold encP
    gi_wp2
    exact hK
  case body =>
    rintro l pre x B W hl hr hpre ⟨hz, ⟨lg1, hD1⟩, hb2, hb4⟩ hbox hBB
    have hlen : pre.length + 1 ≤ full.length := by have := hpre.length_le; simpa using this
    have hfit : ((S.writes pre).2).Fit := ⟨Dsk.writes_left pre S hleft, by have := Dsk.writes_log pre S; omega⟩
    have hxm : x ∈ full := hpre.subset (by simp)
    have hwr := write_any hD1.at_ hfit x.1 x.2 (hsz x hxm)
    have hsn := Dsk.writes_snoc x pre S hz
    rw [← hsn] at hwr
    have c0 := cell_of hbox 0
    have c1 := cell_of hbox 1
    simp at c0 c1
    have cd := hb2.cell
    have hn2 := boxed_ne hD1.at_ hb2 (by decide) (by decide) (by decide)
    have hn4 := boxed_ne hD1.at_ hb4 (by decide) (by decide) (by decide)
    have HB2 : Hid (∀ lg2 W3, DStp d bb lg1 lg2 W W3 (S.writes (pre ++ [x])).2 → Boxed W3 w.heap.size 62 (.pointer (some ⟨d, 0, none⟩)) ∧ Boxed W3 (w.heap.size + 1) 26 (.int .i64 0) ∧ KD d bb (fun b => b = l ∨ b = w.heap.size + 1) W W3 ∧ KeepsFrom w1.heap.size W W3 ∧ DStp d bb lg lg2 w W3 (S.writes (pre ++ [x])).2) := by
      intro lg2 W3 hst
      have hkd := KD.stp (X := fun b => b = l ∨ b = w.heap.size + 1) hD1.at_ hst
      refine ⟨(hst.upd.block _ hb2.lt hn2).trans hb2, (hst.upd.block _ hb4.lt hn4).trans hb4, hkd, ?_, hD1.then hst⟩
      refine ⟨hst.upd.size, fun b o hB hb ho => (hst.upd.block b (lt_of hb) (fun hd => ?_)).trans hb⟩
      obtain ⟨cs, T', hb', _⟩ := hD1.at_.fp_cells hd
      rw [hb] at hb'; simp at hb'; subst hb'; simp [Obj.isCells] at ho
    unfold encP
    clear hD1 hfit hxm hsn hn2 hn4 hb2 hb4 hbox
    generalize x.1 = y at *
    generalize x.2 = sx at *
    by_cases he : (S.writes (pre ++ [x])).1 = 0
    · rw [he] at hwr
      gi_wp2
      refine (CallsIn.inRound l (callsIn_wide.2 hwr)).mono ?_
      rintro e W3 ⟨lg2, rfl, hst⟩
      obtain ⟨h2, h4, hkd, hkf, hst2⟩ := HB2.out lg2 W3 hst
      clear hst hwr HB2
      gi_wp2
      exact ⟨hkf, hkd, he, ⟨lg2, hst2⟩, h2, h4⟩
    · have heb : ((S.writes (pre ++ [x])).1 != 0) = true := by simpa using he
      obtain ⟨c, HC⟩ : ∃ c, Hid ((S.writes (pre ++ [x])).1 = c) := ⟨_, Lib.hid rfl⟩
      rw [HC.out] at hwr heb he
      gi_wp2
      refine (CallsIn.inRound l (callsIn_wide.2 hwr)).mono ?_
      rintro e W3 ⟨lg2, rfl, hst⟩
      obtain ⟨h2, h4, hkd, hkf, hst2⟩ := HB2.out lg2 W3 hst
      have c4 := h4.cell
      have f4 := h4.frozen
      have hsz4 := h4.lt
      clear hst hwr HB2
      gi_wp2
      refine ⟨hkf.trans ((KeepsOthers.setCell _ _ _).from _), hkd.trans ?_, by rw [HC.out]; exact he, hpre, ?_, ?_⟩
      · exact KD.set (.inr rfl) (fun lg' S' hS' => boxed_ne hS' h4 (by decide) (by decide) (by decide)) 0 _
      · exact ⟨lg2, hst2.set (boxed_ne hst2.at_ h4 (by decide) (by decide) (by decide)) (by omega) 0 _⟩
      · rw [HC.out]; exact h4.set _
  case done =>
    rintro D W hD ⟨hz, ⟨lg1, hD1⟩, hb2, hb4⟩ hK
    have c4 := hb4.cell
    have f4 := hb4.frozen
    have hn4 := boxed_ne hD1.at_ hb4 (by decide) (by decide) (by decide)
    have hD2 := hD1.set hn4 (by omega) 0 (.int .i64 0)
    have hb5 := hb4.set (.int .i64 0)
    have hK2 : (W.setCell ⟨w.heap.size + 1, 0, none⟩ (.int .i64 0)).heap[D]? = some (.deferred (some [])) := (KeepsOthers.setCell W _ _).same _ _ hK rfl
    have hD3 := (DStp.own (β := Unit) (B := w1.heap.size) (by omega) (fun _ => (S.writes full).2)).putObj (s := ()) (.deferred none) ⟨lg1, hD2⟩ hD hK2 rfl
    have hc5 := cell_kept hb5.cell (grownBy_putObj' _ D (.deferred none)) (fun r e => by cases e; exact ⟨_, hK2, rfl⟩)
    gi_wp2
    refine ⟨by simp, .inl ⟨_, _, rfl, run_takeDeferred hK2, ?_⟩⟩
    exact ⟨_, results_one rfl Tryz.underlying26 rfl _ _ _ _ rfl hc5, by rw [hz], hD3⟩
  case stop =>
    rintro D pre W hD ⟨hz, ⟨r, hr⟩, hDs, hb4⟩ hK
    have hst := Dsk.writes_stop pre r S hz
    rw [hr] at hst
    have hD3 := (DStp.own (β := Unit) (B := w1.heap.size) (by omega) (fun _ => (S.writes pre).2)).putObj (s := ()) (.deferred none) hDs hD hK rfl
    have hc5 := cell_kept hb4.cell (grownBy_putObj' _ D (.deferred none)) (fun r e => by cases e; exact ⟨_, hK, rfl⟩)
    gi_wp2
    refine ⟨by simp, .inl ⟨_, _, rfl, run_takeDeferred hK, ?_⟩⟩
    exact ⟨_, results_one rfl Tryz.underlying26 rfl _ _ _ _ rfl hc5, by rw [hst], by rw [hst]; exact hD3⟩
end
/-! Clear -/
section
set_option linter.unusedSimpArgs false
set_option linter.unusedVariables false
open Go.RowKit Go.Maps Go.Shelf

theorem MapV.clear {w : World} {b : Nat} {l : List (Int × Value)} {t e : TypeId} (h : MapV w b l) (ht : Tryz.prog.underlying t = some (.map 3 e)) (ty : TypeId) :
    ∃ w', (Builtin.clear_ #[t] ty #[.map (some b)]).run Tryz.prog w = .ok (.tuple #[]) w' ∧ MapV w' b [] ∧ Turn w w' b := by
  obtain ⟨es, clock, hb⟩ := h.obj
  have hs := MapKept.heap_set (o' := .map #[] clock) hb
  refine ⟨ChangeMaps.setBlock w b (.map #[] clock), ?_, ⟨⟨#[], clock, hs.1, ⟨by simp, MapKept.stamped_empty _, by simp⟩, Nat.le_refl _, rfl⟩, by simp [Srt], by simp⟩, turn_of ⟨es, clock, #[], clock, hb, rfl⟩⟩
  simp [Builtin.clear_, run_underlying ht, MapKept.run_getObj_map hb, MapKept.run_setObj_map _ hb, Result.andThen, ChangeMaps.setBlock]
def Pgr.undo (S : Pgr) : Pgr := { S with changed := [] }
theorem undo_ok {S : Pgr} (h : S.Ok) : S.undo.Ok := { h with srtc := by simp [Srt, Pgr.undo], changed := by simp [Pgr.undo], apart := by simp [Pgr.undo, get] }

end
end Go.Proofs.YtmgcaohpbaiiaaaGreatDoor
