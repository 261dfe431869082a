/- A space's first and last page, and the bits of its map. -/
import Derived.Test.YtdoankamaobkoaaGreatDoorDisk
import Derived.IntWalk
import Derived.Laws.Bits64
set_option linter.unusedSimpArgs false
set_option linter.unusedVariables false
namespace Go.Proofs.YtdoankamaobkoaaGreatDoor
open Go.RowKit Go.Maps

theorem sfirst_any (s : Nat) (n : Int) (w : World) (hc : w.cell? ⟨s, 0, none⟩ = some (.int .i64 n)) :
    Calls Tryz.prog 40 #[.pointer (some ⟨s, 0, none⟩)] w fun e w' => e = .returned (.int .i64 (jFirst n)) ∧ w = w' := by
  go_enter Tryz.func40, Tryz.ntmps40
  go_wp2_with (go_at_call 69; refine (first_any _ _).mono ?_; rintro e w' ⟨rfl, rfl⟩)
  go_ret
  exact ⟨rfl, rfl⟩
theorem slast_any (s : Nat) (n : Int) (w : World) (hc : w.cell? ⟨s, 0, none⟩ = some (.int .i64 n)) :
    Calls Tryz.prog 41 #[.pointer (some ⟨s, 0, none⟩)] w fun e w' => e = .returned (.int .i64 (jFirst n + jPages n - 2)) ∧ ∃ k, w' = w.drewN k := by
  have hb := jPages_bd n
  have hB := jFirst_bd n
  have h1 : IntKind.i64.wrap (jFirst n + jPages n) = jFirst n + jPages n := IntWalk.i64_in _ (by omega)
  have h2 : IntKind.i64.wrap (jFirst n + jPages n - 2) = jFirst n + jPages n - 2 := IntWalk.i64_in _ (by omega)
  have hF : ∀ k, Calls Tryz.prog 40 #[.pointer (some ⟨s, 0, none⟩)] (w.drewN k) fun e w' => e = .returned (.int .i64 (jFirst n)) ∧ ∃ m, w' = w.drewN m := fun k =>
    (sfirst_any s n (w.drewN k) hc).mono fun _ _ ⟨a, b⟩ => ⟨a, k, b.symm⟩
  have hG : ∀ k, Calls Tryz.prog 70 #[.int .i64 n] (w.drewN k) fun e w' => e = .returned (.int .i64 (jPages n)) ∧ ∃ m, w' = w.drewN m := fun k =>
    (pages_any n (w.drewN k)).mono fun _ _ ⟨a, b⟩ => ⟨a, k, b.symm⟩
  go_enter Tryz.func41, Tryz.ntmps41
  go_wp2
  go_quiet (first | (go_at_call 40; exact hF _) | (go_at_call 70; exact hG _))
  go_wp2
  go_ret
  exact ⟨rfl, nq, rfl⟩


/-- byte i of a text; behind its end 0 -/
def byteN (s : ByteArray) (i : Nat) : Nat := (s.data.toList.getD i 0).toNat
def bitB (s : ByteArray) (i : Nat) : Bool := byteN s (i / 8) / 2 ^ (i % 8) % 2 == 1
theorem wraps_u8 (n : Int) (h₀ : 0 ≤ n) (h₁ : n < 2 ^ 8) : IntKind.u8.wrap n = n := by rw [IntKind.wrap_u8]; omega
theorem u8_low (n : Nat) (h : n < 256) : bits BinOp.and IntKind.u8 (n : Int) 1 = (n : Int) % 2 :=
  bits_mask .u8 8 (by decide) wraps_u8 1 (by decide) n (by omega) (by omega)
theorem byteN_get (s : ByteArray) {i : Nat} (h : i < s.size) : byteN s i = s[i].toNat := by
  unfold byteN
  rw [List.getD_eq_getElem?_getD, List.getElem?_eq_getElem (by simpa using h)]
  rfl
theorem byteN_lt (s : ByteArray) (i : Nat) : byteN s i < 256 := UInt8.toNat_lt _
theorem bit_at (s : ByteArray) {i : Nat} (h : i / 8 < s.size) : (bits BinOp.and IntKind.u8 ((s[i / 8].toNat : Int) / 2 ^ (i % 8)) 1 == 1) = bitB s i := by
  have hb := byteN_lt s (i / 8)
  have hd : byteN s (i / 8) / 2 ^ (i % 8) ≤ byteN s (i / 8) := Nat.div_le_self _ _
  have e : ((s[i / 8].toNat : Int) / 2 ^ (i % 8)) = ((byteN s (i / 8) / 2 ^ (i % 8) : Nat) : Int) := by rw [byteN_get s h]; push_cast; rfl
  rw [e, u8_low _ (by omega)]
  unfold bitB
  generalize byteN s (i / 8) / 2 ^ (i % 8) = m
  rw [Bool.eq_iff_iff]; simp; omega
set_option maxRecDepth 100000 in
theorem sbit_any (s : Nat) (n : Int) (w : World) (hc : w.cell? ⟨s, 0, none⟩ = some (.int .i64 n)) (x : ByteArray) (hx : x.size = 256) (i : Nat) (hi : i < 2048) (at_ : Int) (hat : at_ = jFirst n + i) :
    Calls Tryz.prog 63 #[.pointer (some ⟨s, 0, none⟩), .string x, .int .i64 at_] w fun e w' => e = .returned (.bool (bitB x i)) ∧ w = w' := by
  subst hat
  have hF := jFirst_bd n
  have hd : i / 8 < x.size := by omega
  have hC := sfirst_any s n w hc
  have h1 : wrap64 (jFirst n + (i : Int) - jFirst n) = i := by rw [show jFirst n + (i : Int) - jFirst n = i by omega]; exact IntWalk.wrap64_in _ (by omega)
  have H1 := Lib.hid h1
  clear h1 hc
  generalize jFirst n = f at *
  have e1 : f + (i : Int) - f = i := by omega
  go_enter Tryz.func63, Tryz.ntmps63
  go_wp2_with (go_at_call 40; refine hC.mono ?_; rintro e w' ⟨rfl, rfl⟩)
  go_ret
  exact ⟨congrArg (fun b => Ending.returned (Value.bool b)) (bit_at x hd), rfl⟩
end Go.Proofs.YtdoankamaobkoaaGreatDoor
