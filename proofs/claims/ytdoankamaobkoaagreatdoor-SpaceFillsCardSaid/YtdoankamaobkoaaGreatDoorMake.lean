/- Zeros, block: texts made as long as a block; a new disk; a new pager. -/
import Derived.Test.YtdoankamaobkoaaGreatDoorHeld
import Derived.Laws.CopyOwn
import Derived.StillTailTactics
set_option linter.unusedSimpArgs false
set_option linter.unusedVariables false
namespace Go.Proofs.YtdoankamaobkoaaGreatDoor
open Go.RowKit Go.Maps Go.Shelf

theorem info_u8 : (Tryz.prog.info? 5).map (fun i => (i.zero, i.size, i.bytes)) = some (some (.int .u8 0), 1, 1) := by kernel_rfl
theorem info_str : (Tryz.prog.info? 9).map (fun i => (i.zero, i.size, i.bytes)) = some (some (.string ⟨#[]⟩), 1, 16) := by kernel_rfl

def zerosB (n : Nat) : ByteArray := ⟨(List.replicate n (0 : UInt8)).toArray⟩
theorem zerosB_size (n : Nat) : (zerosB n).size = n := by simp [zerosB, ByteArray.size]
/-- a text made as long as a block -/
def blockB (s : ByteArray) : ByteArray := if 256 < s.size then s.extract 0 256 else s ++ zerosB (256 - s.size)
theorem blockB_size (s : ByteArray) : (blockB s).size = 256 := by
  unfold blockB
  split
  · simp [ByteArray.size_extract]; omega
  · rw [ByteArray.size_append, zerosB_size]; omega

theorem made_get (z : Value) (n j : Nat) (hz : z.cells = #[z]) (hj : j < n) : (madeCells z.cells n)[j]? = some z := by
  unfold madeCells
  rw [hz]
  simp [hj, Nat.mod_one]

set_option maxHeartbeats 400000 in
theorem zeros_any (n : Nat) (w : World) (hn : n ≤ 281474976710656) :
    Calls Tryz.prog 56 #[.int .i64 n] w fun e w' => e = .returned (.string (zerosB n)) ∧ Below w.heap.size w w' := by
  obtain ⟨i0, hi, hz0, hz1, hz2⟩ := info_parts info_u8
  have hmk := run_make (P := Tryz.prog) w 22 5 i0 (.int .u8 0) Tryz.underlying22 hi hz0 .i64 .i64 n n (by omega) (Int.le_refl _) (by rw [hz2]; omega) (by omega)
  rw [hz1, Nat.mul_one] at hmk
  simp only [Int.toNat_natCast] at hmk
  have hcv := run_convert_bytes_back (P := Tryz.prog) (w.alloc (.cells (madeCells (Value.int .u8 0).cells n) 5)) 22 9 5 ⟨w.heap.size, 0, none⟩ n (List.replicate n (0 : UInt8)) Tryz.underlying22 Tryz.underlying5 Tryz.underlying9 (by
    intro j hj
    have hj' : j < n := by simpa using hj
    have : (Addr.add ⟨w.heap.size, 0, none⟩ j) = ⟨w.heap.size, j, none⟩ := by unfold Addr.add; split <;> simp_all
    rw [this, cell_new, made_get _ _ _ rfl hj']
    simp)
  simp only [List.length_replicate] at hcv
  have HE : Hid (zerosB n = ⟨(List.replicate n (0 : UInt8)).toArray⟩) := rfl
  rw [← HE.out] at hcv
  clear hi hz0 hz1 hz2
  generalize zerosB n = zb at *
  generalize (Value.int .u8 0).cells = zc at *
  clear HE
  go_enter Tryz.func56, Tryz.ntmps56
  go_wp2
  go_ret
  exact ⟨rfl, (Below.refl _ w).alloc (Nat.le_refl _) _⟩

/-- k copies of a text, ahead of empty ones -/
def halfRow (s : ByteArray) (k n : Nat) : List Value := List.replicate k (.string s) ++ List.replicate (n - k) (.string ⟨#[]⟩)
theorem halfRow_length {s : ByteArray} {k n : Nat} (h : k ≤ n) : (halfRow s k n).length = n := by simp [halfRow]; omega
theorem halfRow_get {s : ByteArray} {k n j : Nat} (h : j < k) : (halfRow s k n)[j]? = some (.string s) := by
  simp [halfRow, List.getElem?_append, h]
theorem halfRow_splice {s : ByteArray} {k n m : Nat} (h : k + m ≤ n) : splice (halfRow s k n) k (List.replicate m (.string s)) = halfRow s (k + m) n := by
  unfold splice halfRow
  have e1 : (List.replicate k (Value.string s) ++ List.replicate (n - k) (Value.string ⟨#[]⟩)).take k = List.replicate k (Value.string s) := by simp
  have e2 : (List.replicate k (Value.string s) ++ List.replicate (n - k) (Value.string ⟨#[]⟩)).drop (k + (List.replicate m (Value.string s)).length) = List.replicate (n - (k + m)) (Value.string ⟨#[]⟩) := by
    rw [List.length_replicate, List.drop_append]
    simp
    omega
  rw [e1, e2, ← List.append_assoc, List.replicate_append_replicate]

/-- one copy within a row, or into it: m copies more -/
theorem copy_half {w : World} {G g0 : Nat} {s : ByteArray} {k m n sl sc dl dc so : Nat} (hrow : w.heap[G]? = some (.cells (halfRow s k n).toArray 9 (0, 0))) (hkm : k + m ≤ n) (hm : m = Nat.min sl dl)
    (hsrc : ∀ j, j < m → w.cell? ⟨g0, so + j, none⟩ = some (.string s)) :
    ∃ w', (Builtin.copy_ #[79, 79] 3 #[.slice (some ⟨G, k, none⟩) dl dc, .slice (some ⟨g0, so, none⟩) sl sc]).run Tryz.prog w = .ok (.int .i64 m) w' ∧
      w'.heap[G]? = some (.cells (halfRow s (k + m) n).toArray 9 (0, 0)) ∧ (∀ B w0, Below B w0 w → B ≤ G → Below B w0 w') := by
  obtain ⟨i0, hi, hz0, hz1, hz2⟩ := info_parts info_str
  have hsz : (Tryz.prog.info? 9).map (·.size) = some 1 := by rw [hi]; simp [hz1]
  have hl := halfRow_length (s := s) (k := k) (n := n) (by omega)
  have hrun := run_copy_row (P := Tryz.prog) w 79 79 3 9 G k dl dc ⟨g0, so, none⟩ sl sc (halfRow s k n).toArray 9 (List.replicate m (.string s)) Tryz.underlying79 hsz hrow (by simpa using hm)
    (fun j v hj => by
      have hjm : j < m := by have := (List.getElem?_eq_some_iff.1 hj).1; simpa using this
      have hv : v = .string s := by
        rw [List.getElem?_replicate] at hj; simp [hjm] at hj; exact hj.symm
      have : (Addr.add ⟨g0, so, none⟩ j) = ⟨g0, so + j, none⟩ := by unfold Addr.add; split <;> simp_all
      rw [this, hsrc j hjm, hv])
    (by simp [hl]; exact hkm) (by simp [Value.oneCell'])
  refine ⟨_, by simpa [goInt] using hrun, ?_, fun B w0 hb hBG => below_setRow hb hBG _⟩
  rw [setRow_heap w G _ _ _ _ hrow, ← halfRow_splice hkm]
  simp [splice]

set_option maxRecDepth 100000 in
set_option maxHeartbeats 1000000 in
theorem repeat_any (s : ByteArray) (n g0 : Nat) (w : World) (hn1 : 1 ≤ n) (hn2 : n ≤ 2048) (hsrc : w.cell? ⟨g0, 0, none⟩ = some (.string s)) (hg0 : g0 < w.heap.size) :
    Calls Tryz.prog 46 #[.slice (some ⟨g0, 0, none⟩) 1 1, .int .i64 n] w fun e w' => ∃ G, e = .returned (.slice (some ⟨G, 0, none⟩) n n) ∧
      w'.heap[G]? = some (.cells (List.replicate n (Value.string s)).toArray 9 (0, 0)) ∧ w.heap.size ≤ G ∧ Below w.heap.size w w' := by
  obtain ⟨i0, hi, hz0, hz1, hz2⟩ := info_parts info_str
  have hmk := fun W : World => run_make (P := Tryz.prog) W 79 9 i0 (.string ⟨#[]⟩) Tryz.underlying79 hi hz0 .i64 .i64 n n (by omega) (Int.le_refl _) (by rw [hz2]; omega) (by omega)
  rw [hz1, Nat.mul_one] at hmk
  simp only [Int.toNat_natCast] at hmk
  have hsz : (Tryz.prog.info? 9).map (·.size) = some 1 := by rw [hi]; simp [hz1]
  have hmul := Tryz.bits_Mul 1 n (by omega) (by omega) w
  rw [Nat.one_mul, Nat.div_eq_of_lt (by omega), Nat.mod_eq_of_lt (by omega)] at hmul
  have hmade : madeCells (Value.string ⟨#[]⟩).cells n = (halfRow s 0 n).toArray := by
    apply Array.ext_getElem?
    intro j
    by_cases hj : j < n
    · rw [made_get _ _ _ rfl hj]
      simp [halfRow, hj]
    · have h1 : ¬ j < (madeCells (Value.string ⟨#[]⟩).cells n).size := by rw [size_madeCells]; omega
      rw [Array.getElem?_eq_none (by omega), Array.getElem?_eq_none (by simp [halfRow]; omega)]
  rw [hmade] at hmk
  have HSZ := Lib.hid hsz
  have hhr : (halfRow s 0 n).length = n := halfRow_length (by omega)
  clear hi hz0 hz1 hz2 hmade hsz
  have HR := Lib.hid hhr
  clear hhr
  have HSRC := Lib.hid hsrc
  clear hsrc
  obtain ⟨w2, hcp, hrow2, hB2⟩ := copy_half (w := w.alloc (.cells (halfRow s 0 n).toArray 9)) (G := w.heap.size) (g0 := g0) (s := s) (k := 0) (m := 1) (n := n) (sl := 1) (sc := 1) (dl := n) (dc := n) (so := 0)
    (heap_alloc_new' w _) (by omega) (show Nat.min 1 n = 1 from Nat.min_eq_left hn1).symm (fun j hj => by obtain rfl : j = 0 := (by omega); exact (cell_old _ hg0 0).trans HSRC.out)
  have HB2 := Lib.hid (hB2 w.heap.size w ((Below.refl _ w).alloc (Nat.le_refl _) _) (Nat.le_refl _))
  rw [Nat.zero_add] at hrow2
  have HROW := Lib.hid hrow2
  clear hB2 hrow2
  go_enter Tryz.func46, Tryz.ntmps46
  go_wp2_with (go_at_call 74; refine hmul.mono ?_; rintro e w' ⟨rfl, hw⟩; obtain rfl := hw.symm; clear hw)
  go_loopw [8] (fun v wr => ∃ k : Nat, v = .int .i64 k ∧ 1 ≤ k ∧ k ≤ n ∧ Hid (wr.heap[w.heap.size]? = some (.cells (halfRow s k n).toArray 9 (0, 0))) ∧ Below w.heap.size w wr) (fun v _ => n - (intOf v).toNat)
  case atStart => exact ⟨1, rfl, by omega, by omega, HROW, HB2.out⟩
  case round =>
    obtain ⟨k, rfl, hk1, hk2, HK, hB⟩ := hrel
    clear hcp hmk hmul
    by_cases hlt : k < n
    · obtain ⟨m, hm⟩ : ∃ m, m = Nat.min k (n - k) := ⟨_, rfl⟩
      have hm1 : 1 ≤ m ∧ k + m ≤ n := by
        have : Nat.min k (n - k) = if k ≤ n - k then k else n - k := Nat.min_def
        rw [this] at hm; split at hm <;> omega
      have hrow : wr.drew.heap[w.heap.size]? = some (.cells (halfRow s k n).toArray 9 (0, 0)) := HK.out
      have hBd : Below w.heap.size w wr.drew := hB.drew
      have hmk : m ≤ k := by
        have : Nat.min k (n - k) = if k ≤ n - k then k else n - k := Nat.min_def
        rw [this] at hm; split at hm <;> omega
      obtain ⟨w3, hcp, hrow3, hB3⟩ := copy_half (G := w.heap.size) (g0 := w.heap.size) (s := s) (k := k) (m := m) (n := n) (sl := k) (sc := n) (dl := n - k) (dc := n - k) (so := 0) hrow hm1.2 hm
        (fun j hj => by rw [Nat.zero_add, cell_of hrow j, List.getElem?_toArray, halfRow_get (by omega)])
      have HB3 := Lib.hid (hB3 _ _ hBd (Nat.le_refl _))
      have HR3 := Lib.hid hrow3
      obtain ⟨hm2, hm3⟩ := hm1
      have hw : IntKind.i64.wrap ((k : Int) + (m : Int)) = (k : Int) + (m : Int) := IntWalk.i64_in _ (by omega)
      clear hrow hBd hB3 hrow3 hm hB HK
      go_wp2
      go_region
      all_goals go_wp2
      go_roundw
      case rel => exact ⟨k + m, by go_num, by omega, by omega, HR3, HB3.out⟩
      case measure => simp [intOf]; omega
    · obtain rfl : n = k := by omega
      go_wp2
      go_ret
      refine ⟨_, rfl, ?_, Nat.le_refl _, hB⟩
      have := HK.out
      rw [show halfRow s n n = List.replicate n (Value.string s) by simp [halfRow]] at this
      exact this

theorem many_any (n : Int) (w : World) :
    Calls Tryz.prog 44 #[.int .i64 n] w fun e w' => e = .returned (.bool (decide (64 ≤ n) && decide (n ≤ 2048))) ∧ w = w' := by
  by_cases h : 64 ≤ n
  · go_enter Tryz.func44, Tryz.ntmps44
    go_wp2
    go_ret
    exact ⟨by simp [h], rfl⟩
  · have hd : decide (64 ≤ n) = false := by simpa using h
    go_enter Tryz.func44, Tryz.ntmps44
    go_wp2
    go_ret
    exact ⟨by simp [hd], rfl⟩

/-- a disk of empty blocks -/
def newDsk (n : Nat) : Dsk := ⟨List.replicate n (zerosB 256), [], 0, false, false⟩

theorem repeatL_zero (n : Nat) : Lib.repeatL [(0 : UInt8)] n = List.replicate n 0 := by
  induction n with
  | zero => rfl
  | succ n ih => simp [Lib.repeatL, List.replicate_succ] at ih ⊢; exact ih

set_option maxRecDepth 100000 in
set_option maxHeartbeats 1000000 in
theorem diskNew_any (n : Nat) (w : World) (h1 : 64 ≤ n) (h2 : n ≤ 2048) :
    Calls Tryz.prog 17 #[.int .i64 n] w fun e w' => ∃ d bb, e = .returned (.tuple #[.pointer (some ⟨d, 0, none⟩), .int .i64 0]) ∧
      DiskAt w' d bb (.slice none 0 0) (newDsk n) ∧ w.heap.size ≤ d ∧ w.heap.size ≤ bb ∧ Below w.heap.size w w' := by
  have hm := many_any n w
  have hd1 : decide ((64 : Int) ≤ n) = true := by simp; omega
  have hd2 : decide ((n : Int) ≤ 2048) = true := by simp; omega
  rw [hd1, hd2] at hm
  have hrp := Tryz.strings_Repeat ⟨#[0]⟩ 256 w (by omega) (by simp [ByteArray.size])
  have HZ : Hid ((⟨(Lib.repeatL (⟨#[0]⟩ : ByteArray).data.toList 256).toArray⟩ : ByteArray) = zerosB 256) := by
    show _ = _; unfold zerosB; rw [show (⟨#[0]⟩ : ByteArray).data.toList = [(0 : UInt8)] from rfl, repeatL_zero]
  rw [HZ.out] at hrp
  clear hd1 hd2 HZ
  generalize hz : zerosB 256 = zb at *
  have HZB := Lib.hid hz
  clear hz
  go_enter Tryz.func17, Tryz.ntmps17
  go_wp2_with fail
  refine hm.mono ?_
  rintro e w' ⟨rfl, rfl⟩
  go_wp2_with fail
  refine hrp.mono ?_
  rintro e w1 ⟨rfl, hB1⟩
  go_wp2_with fail
  have hrep := repeat_any zb n w1.heap.size (w1.alloc (.cells #[.string zb] 9)) (by omega) h2 (by rw [cell_new]; rfl) (by simp)
  refine hrep.mono ?_
  rintro e w2 ⟨G, rfl, hG, hGs, hB2⟩
  have HG := Lib.hid hG
  have HB1 := Lib.hid hB1
  have HB2 := Lib.hid hB2
  have hGs' : w1.heap.size + 1 ≤ G := by simpa using hGs
  clear hG hB1 hB2 hrep hrp hm hGs
  go_wp2
  go_ret2
  have hs1 := HB1.out.size
  have hs2 := HB2.out.size
  simp at hs2
  refine ⟨w2.heap.size, G, rfl, ⟨?_, ?_, ?_⟩, by omega, by omega, ?_⟩
  · rw [heap_alloc_new']; simp [newDsk]
  · rw [Below.heap_alloc _ _ _ (lt_of HG.out), HG.out]; simp [newDsk, HZB.out]
  · exact World.ownsRow_nil _ _ _ _
  · exact ((HB1.out.alloc hs1 _).trans (HB2.out.mono (by simp; omega))).alloc (by omega) _
end Go.Proofs.YtdoankamaobkoaaGreatDoor
