/- num.Get; strings.HasPrefix at the journal's mark. -/
import Derived.Test.YtdoankamaobkoaaGreatDoorCom
import Derived.Test.YtdoankamaobkoaaGreatDoorBit
set_option linter.unusedSimpArgs false
set_option linter.unusedVariables false
namespace Go.Proofs.YtdoankamaobkoaaGreatDoor
open Go.RowKit Go.Maps Go.Shelf

/-- the number that stands at a place -/
def getN (s : ByteArray) (at_ k : Nat) : Nat := (List.range k).foldl (fun n i => n * 256 + byteN s (at_ + i)) 0
theorem getN_succ (s : ByteArray) (at_ k : Nat) : getN s at_ (k + 1) = getN s at_ k * 256 + byteN s (at_ + k) := by
  unfold getN; rw [List.range_succ, List.foldl_append]; rfl
theorem getN_lt (s : ByteArray) (at_ : Nat) : ∀ k, getN s at_ k < 256 ^ k
  | 0 => by simp [getN]
  | k + 1 => by
    have := getN_lt s at_ k
    have := byteN_lt s (at_ + k)
    rw [getN_succ, Nat.pow_succ]; omega
theorem wraps_u64 (n : Int) (h₀ : 0 ≤ n) (h₁ : n < 2 ^ 64) : IntKind.u64.wrap n = n := by rw [IntKind.wrap_u64]; omega
theorem u64_join (a b : Nat) (ha : a < 256) (hb : b < 72057594037927936) : bits BinOp.or IntKind.u64 ((b : Int) * 256) (a : Int) = (b : Int) * 256 + (a : Int) :=
  bits_join .u64 64 (by decide) wraps_u64 8 _ _ (by omega) (by omega) (by omega) (by omega) (by omega) (by omega)

set_option maxHeartbeats 1000000 in
set_option maxRecDepth 100000 in
theorem get_any (s : ByteArray) (at_ k : Nat) (w : World) (hk1 : 1 ≤ k) (hk2 : k ≤ 8) (h : at_ + k ≤ s.size) (hs : s.size ≤ 140737488355328) :
    Calls Tryz.prog 106 #[.string s, .int .i64 at_, .int .i64 k] w fun e w' => e = .returned (.tuple #[.int .u64 (getN s at_ k), .int .i64 0]) ∧ w = w' := by
  have HS0 : Hid (getN s at_ 0 = 0) := rfl
  have HSS : Hid (∀ j, getN s at_ (j + 1) = getN s at_ j * 256 + byteN s (at_ + j)) := getN_succ s at_
  have HLT : Hid (∀ j, j ≤ 7 → getN s at_ j < 72057594037927936) := fun j hj => by
    have := getN_lt s at_ j
    have h2 : 256 ^ j ≤ 256 ^ 7 := Nat.pow_le_pow_right (by omega) hj
    have h3 : 256 ^ 7 = 72057594037927936 := by decide
    omega
  have HBY : Hid (∀ j, j < s.size → byteN s j = s[j]!.toNat) := fun j hj => by rw [byteN_get s hj]; simp [getElem!_pos, hj]
  generalize hG : getN s at_ = G at *
  clear hG
  go_enter Tryz.func106, Tryz.ntmps106
  go_wp2
  go_loop [8, 29] (fun n i => ∃ j : Nat, j ≤ k ∧ i = .int .i64 j ∧ n = .int .u64 (G j)) (fun _ i => k - (intOf i).toNat)
  case atStart => exact ⟨0, by omega, rfl, by rw [HS0.out]; rfl⟩
  case round =>
    obtain ⟨j, hj, rfl, rfl⟩ := hrel
    by_cases hlt : j < k
    · have hb := HLT.out j (by omega)
      have hin : at_ + j < s.size := by omega
      have hby := byteN_lt s (at_ + j)
      have hju := u64_join (byteN s (at_ + j)) (G j) hby hb
      have hgs := HSS.out j
      obtain ⟨g, HG⟩ : ∃ g, Hid (G j = g) := ⟨_, Lib.hid rfl⟩
      have HGS := Lib.hid hgs
      have HJU := Lib.hid hju
      clear hgs hju
      rw [HG.out] at hb ⊢
      have HE : Hid (bits BinOp.or IntKind.u64 ((g : Int) * 256) (IntKind.u64.wrap (s[at_ + j].toNat : Int)) = ((G (j + 1) : Nat) : Int)) := by
        show _ = _
        rw [← byteN_get s hin, wraps_u64 _ (by omega) (by omega)]
        have h1 := HJU.out
        have h2 := HGS.out
        rw [HG.out] at h1 h2
        rw [h1, h2]
        push_cast; rfl
      clear hby
      go_wp2
      go_round
      case rel => exact ⟨j + 1, by omega, by go_num, congrArg (fun z => Value.int .u64 z) HE.out⟩
      case measure => simp [intOf]; omega
    · obtain rfl : k = j := by omega
      go_wp2
      go_ret2
      exact ⟨rfl, rfl⟩

/-- a text that does not begin with four bytes -/
theorem prefix_not (x p : ByteArray) (w : World) (hx : x.size = 256) (hp : p.size = 4) (hne : x.extract 0 4 ≠ p) :
    Calls Tryz.prog 75 #[.string x, .string p] w fun e w' => e = .returned (.bool false) ∧ w = w' := by
  have hb : ((x.extract 0 4).toList == p.toList) = false := by
    rw [beq_eq_false_iff_ne]
    intro h
    exact hne (ByteArray.ext (Array.ext' (by simpa [ByteArray.toList_eq] using h)))
  have hbb : ∀ W, Calls Tryz.prog 102 #[.string x, .string p] W fun e w' => e = .returned (.bool false) ∧ W = w' := fun W => by
    go_enter Tryz.func102, Tryz.ntmps102
    go_wp2
    go_ret
    exact ⟨rfl, rfl⟩
  clear hne hb
  go_enter Tryz.func75, Tryz.ntmps75
  go_wp2_with (go_at_call 102; refine (hbb _).mono ?_; rintro e w' ⟨rfl, rfl⟩)
  go_ret
  exact ⟨rfl, rfl⟩
end Go.Proofs.YtdoankamaobkoaaGreatDoor
