/- A space in memory; its first and last page, its name, load and store. -/
import Derived.Test.YtdoankamaobkoaaGreatDoorSp
import Derived.Test.YtdoankamaobkoaaGreatDoorErr
import Derived.Test.YtdoankamaobkoaaGreatDoorBit
import Derived.Deep.RegionWith
set_option linter.unusedSimpArgs false
set_option linter.unusedVariables false
namespace Go.Proofs.YtdoankamaobkoaaGreatDoor
open Go.RowKit Go.Maps Go.Shelf

/-- a space that lies in what was made since w0: its block s, on the disk d; V is what its pages show, D what lies on the disk -/
structure SIn (w0 w : World) (s d : Nat) (F : Nat → Prop) (n : Int) (V D : Int → ByteArray) (N : Int) : Prop where
  ex : ∃ p S, PIn w0 w p d F S ∧ Sp S n V D N ∧ w.heap[s]? = some (.cells #[.int .i64 n, .pointer (some ⟨p, 0, none⟩)] 76 (0, 0))
  new : w0.heap.size ≤ s
  out : ¬ F s
  glob : Glob w0
theorem drewN_below (w : World) (k : Nat) : Below w.heap.size w (w.drewN k) := ⟨rfl, rfl, rfl, Nat.le_refl _, fun _ _ => rfl⟩
theorem Glob.below {w0 w : World} (h : Glob w0) (hB : Below w0.heap.size w0 w) : Glob w := by
  unfold Glob at h ⊢
  exact (hB.cell (p := ⟨0, 0, none⟩) (World.block_lt_of_cell? w0 _ h)).trans h
section
variable {w0 w w1 w2 : World} {s d : Nat} {F : Nat → Prop} {n N M : Int} {V D V' D' : Int → ByteArray}
theorem SIn.globW (h : SIn w0 w s d F n V D N) : Glob w := by obtain ⟨p, S, hP, _, _⟩ := h.ex; exact h.glob.below hP.below
theorem SIn.below (h : SIn w0 w s d F n V D N) : Below w0.heap.size w0 w := by obtain ⟨p, S, hP, _, _⟩ := h.ex; exact hP.below
theorem SIn.bd (h : SIn w0 w s d F n V D N) : 64 ≤ n ∧ n ≤ 2048 := by obtain ⟨p, S, _, hS, _⟩ := h.ex; exact hS.bd
theorem SIn.cell0 (h : SIn w0 w s d F n V D N) : w.cell? ⟨s, 0, none⟩ = some (.int .i64 n) := by obtain ⟨p, S, _, _, hc⟩ := h.ex; rw [cell_of hc]; rfl
theorem SIn.made (h : SIn w0 w s d F n V D N) (hB : Below w.heap.size w w1) : SIn w0 w1 s d F n V D N := by
  obtain ⟨p, S, hP, hS, hc⟩ := h.ex
  exact ⟨⟨p, S, hP.made hB, hS, (hB.block s (lt_of hc)).trans hc⟩, h.new, h.out, h.glob⟩
theorem SIn.drewN (h : SIn w0 w s d F n V D N) (k : Nat) : SIn w0 (w.drewN k) s d F n V D N := h.made ⟨rfl, rfl, rfl, Nat.le_refl _, fun _ _ => rfl⟩
theorem SIn.alloc (h : SIn w0 w s d F n V D N) (o : Obj) : SIn w0 (w.alloc o) s d F n V D N := h.made ((Below.refl _ w).alloc (Nat.le_refl _) o)
theorem SIn.mono (h : SIn w0 w s d F n V D N) (hle : N ≤ M) : SIn w0 w s d F n V D M := by
  obtain ⟨p, S, hP, hS, hc⟩ := h.ex
  exact ⟨⟨p, S, hP, hS.mono hle, hc⟩, h.new, h.out, h.glob⟩
/-- behind a call: the space shows V', on the blocks that it had and new ones; nothing else has turned -/
structure SStp (w0 w w' : World) (s d : Nat) (F : Nat → Prop) (n : Int) (V' D' : Int → ByteArray) (N : Int) : Prop where
  sin : SIn w0 w' s d (ext F w w') n V' D' N
  upd : Upd F w w'
theorem SIn.refl (h : SIn w0 w s d F n V D N) : SStp w0 w w s d F n V D N := by
  refine ⟨?_, Upd.refl _ _⟩
  obtain ⟨p, S, hP, hS, hc⟩ := h.ex
  refine ⟨⟨p, S, ⟨hP.pat.mono fun _ hb => .inl hb, fun b hb => ?_, hP.below⟩, hS, hc⟩, h.new, fun hx => ?_, h.glob⟩
  · rcases hb with hb | hb
    · exact hP.new b hb
    · omega
  · rcases hx with hx | hx
    · exact h.out hx
    · omega
theorem ext_ext {b : Nat} (h1 : w.heap.size ≤ w1.heap.size) (h2 : w1.heap.size ≤ w2.heap.size) (h : ext (ext F w w1) w1 w2 b) : ext F w w2 b := by
  rcases h with (h | h) | h
  · exact .inl h
  · exact .inr ⟨h.1, by omega⟩
  · exact .inr ⟨by omega, h.2⟩
theorem SIn.monoF {G : Nat → Prop} (h : SIn w0 w s d F n V D N) (hg : ∀ b, F b → G b) (hn : ∀ b, G b → w0.heap.size ≤ b) (ho : ¬ G s) : SIn w0 w s d G n V D N := by
  obtain ⟨p, S, hP, hS, hc⟩ := h.ex
  exact ⟨⟨p, S, ⟨hP.pat.mono hg, hn, hP.below⟩, hS, hc⟩, h.new, ho, h.glob⟩
theorem SIn.newF (h : SIn w0 w s d F n V D N) : ∀ b, F b → w0.heap.size ≤ b := by obtain ⟨p, S, hP, _, _⟩ := h.ex; exact hP.new
theorem SIn.slt (h : SIn w0 w s d F n V D N) : s < w.heap.size := by obtain ⟨p, S, _, _, hc⟩ := h.ex; exact lt_of hc
theorem SStp.trans {N0 : Int} {V0 D0 : Int → ByteArray} (h0 : SIn w0 w s d F n V0 D0 N0) (h : SStp w0 w w1 s d F n V D M) (k : SStp w0 w1 w2 s d (ext F w w1) n V' D' N) : SStp w0 w w2 s d F n V' D' N := by
  have hs1 := h.upd.size
  have hs2 := k.upd.size
  have hb := h0.below.size
  have hsl := h0.slt
  refine ⟨k.sin.monoF (fun b hb => ext_ext hs1 hs2 hb) (fun b hb => ?_) (fun hx => ?_), h.upd.then k.upd fun x hx hf => ?_⟩
  · rcases hb with hb | hb
    · exact h0.newF b hb
    · omega
  · rcases hx with hx | hx
    · exact h0.out hx
    · omega
  · rcases hf with hf | hf
    · exact hf
    · omega
theorem SStp.made {N0 : Int} (h0 : SIn w0 w s d F n V D N0) (h : SStp w0 w w1 s d F n V' D' M) (hB : Below w1.heap.size w1 w2) : SStp w0 w w2 s d F n V' D' M := by
  have hs1 := h.upd.size
  have hs2 := hB.size
  have hb := h0.below.size
  have hsl := h0.slt
  refine ⟨(h.sin.made hB).monoF (fun b hb => ?_) (fun b hb => ?_) (fun hx => ?_), h.upd.trans (Upd.below hB fun x hx hle => by omega)⟩
  · rcases hb with hb | hb
    · exact .inl hb
    · exact .inr ⟨hb.1, by omega⟩
  · rcases hb with hb | hb
    · exact h0.newF b hb
    · omega
  · rcases hx with hx | hx
    · exact h0.out hx
    · omega
theorem SStp.after {N0 : Int} (h0 : SIn w0 w s d F n V D N0) (hB : Below w.heap.size w w1) (k : SStp w0 w1 w2 s d F n V' D' M) : SStp w0 w w2 s d F n V' D' M := by
  have hs1 := hB.size
  have hs2 := k.upd.size
  have hb := h0.below.size
  have hsl := h0.slt
  refine ⟨k.sin.monoF (fun b hb => ?_) (fun b hb => ?_) (fun hx => ?_), (Upd.below hB fun x hx hle => by omega).trans k.upd⟩
  · rcases hb with hb | hb
    · exact .inl hb
    · exact .inr ⟨by omega, hb.2⟩
  · rcases hb with hb | hb
    · exact h0.newF b hb
    · omega
  · rcases hx with hx | hx
    · exact h0.out hx
    · omega
theorem SStp.mono (h : SStp w0 w w1 s d F n V D N) (hle : N ≤ M) : SStp w0 w w1 s d F n V D M := ⟨h.sin.mono hle, h.upd⟩
end

/-! ### numbers of pages -/
theorem jDown_ge {n : Int} {m : Nat} (hm : 2 * (m : Int) + 1 + jBlocks m ≤ n) : ∀ {k : Nat}, m ≤ k → m ≤ jDown n k
  | 0, h => by omega
  | k + 1, h => by
    unfold jDown
    split
    · rename_i hk
      rcases Nat.lt_or_ge k m with hlt | hge
      · have : m = k + 1 := by omega
        subst this
        exfalso
        simp only [Int.natCast_add, Int.natCast_one, Int.cast_ofNat_Int] at hm hk
        omega
      · exact jDown_ge hm hge
    · exact h
theorem pages_many {n : Int} (h1 : 64 ≤ n) (h2 : n ≤ 2048) : 31 ≤ jPages n := by
  unfold jPages
  rw [if_neg (by omega)]
  have e : jBlocks 31 = 1 := by decide
  have h3 : 2 * ((31 : Nat) : Int) + 1 + jBlocks ((31 : Nat) : Int) ≤ n := by
    show 2 * (31 : Int) + 1 + jBlocks (31 : Int) ≤ n
    omega
  have := jDown_ge (n := n) (m := 31) h3 (k := ((n - 1) / 2).toNat) (by omega)
  omega
theorem first_eq {n : Int} (h1 : 64 ≤ n) (h2 : n ≤ 2048) : jFirst n = 2 + jBlocks (jPages n) + jPages n := by
  have := pages_many h1 h2
  unfold jFirst; rw [if_neg (by omega)]
theorem page_zero (n : Int) : isPage n 0 = true := by simp [isPage]
theorem page_in {n i : Int} (h1 : jFirst n ≤ i) (h2 : i ≤ jFirst n + jPages n - 2) : isPage n i = true := by
  unfold isPage; simp only [Bool.or_eq_true, Bool.and_eq_true, decide_eq_true_eq]; omega
theorem first_pos {n : Int} (h1 : 64 ≤ n) (h2 : n ≤ 2048) : 34 ≤ jFirst n := by
  have := pages_many h1 h2
  have := jBlocks_le (m := jPages n) (by omega)
  have h3 : 1 ≤ jBlocks (jPages n) := by unfold jBlocks; omega
  rw [first_eq h1 h2]; omega

section
variable {w0 w : World} {s d : Nat} {F : Nat → Prop} {n N : Int} {V D : Int → ByteArray}
/-- what the head page begins with -/
def spName (n : Int) : ByteArray := ⟨#[97, 117, 109, 98, 114, 121]⟩ ++ putB n.toNat 2
theorem spName_size (n : Int) : (spName n).size = 8 := by unfold spName; rw [ByteArray.size_append, putB_size]; rfl
theorem sname_any (s : Nat) (n : Int) (w : World) (hc : w.cell? ⟨s, 0, none⟩ = some (.int .i64 n)) (h1 : 64 ≤ n) (h2 : n ≤ 2048) :
    Calls Tryz.prog 51 #[.pointer (some ⟨s, 0, none⟩)] w fun e w' => e = .returned (.string (spName n)) ∧ Below w.heap.size w w' := by
  obtain ⟨k, rfl⟩ : ∃ k : Nat, n = k := ⟨n.toNat, by omega⟩
  have hP := put_any k 2 w (by omega) (by omega) (by omega)
  have hsz := putB_size k 2
  unfold spName
  rw [show ((k : Int)).toNat = k by omega]
  generalize putB k 2 = x at *
  go_enter Tryz.func51, Tryz.ntmps51
  go_wp2_with fail
  refine hP.mono ?_
  rintro e w' ⟨rfl, hB⟩
  have HB := Lib.hid hB
  clear hB hP
  go_wp2
  go_ret
  exact ⟨rfl, HB.out⟩

theorem load_sp (h : SIn w0 w s d F n V D N) {i : Int} (hp : isPage n i = true) (hN : N < 2305843009213693952) :
    Calls Tryz.prog 39 #[.pointer (some ⟨s, 0, none⟩), .int .i64 i] w fun e w' => e = .returned (.tuple #[.string (V i), .nilIface]) ∧ SStp w0 w w' s d F n V D (N + 2) := by
  have H := Lib.hid h
  obtain ⟨p, S, hP, hS, hc⟩ := h.ex
  have c1 := cell_of hc 1
  simp at c1
  have hb := isPage_bd hp
  have hck := hS.sees.clock
  have hrd := hS.sees.reads
  obtain ⟨l1, l2⟩ := hS.load hp
  have hL := load_in hP i (wf_small (by omega)) (by omega) (by omega)
  rw [l1] at hL
  have HL := Lib.hid hL
  have HC := Lib.hid hc
  have L2 := Lib.hid l2
  clear hL hc l1 l2 hS hP h hck hrd hb hp hN
  generalize V i = x at *
  go_enter Tryz.func39, Tryz.ntmps39
  go_wp2_with fail
  refine HL.out.mono ?_
  rintro e w1 ⟨rfl, hP1, hU⟩
  have HP1 := Lib.hid hP1
  have HU := Lib.hid hU
  clear hP1 hU HL
  go_wp2_with fail
  refine (fault_any _ _ _).mono ?_
  rintro e w2 ⟨v, rfl, hE, hB⟩
  obtain rfl : v = .nilIface := by rcases hE with ⟨_, h⟩ | ⟨h, _⟩; exact h; exact absurd rfl h
  have HB := Lib.hid hB
  clear hE hB
  go_wp2
  go_ret2
  refine ⟨rfl, SStp.made H.out ⟨⟨⟨p, _, HP1.out, L2.out, ?_⟩, H.out.new, fun hx => ?_, H.out.glob⟩, HU.out⟩ HB.out⟩
  · exact (HU.out.block s (lt_of HC.out) H.out.out).trans HC.out
  · rcases hx with hx | hx
    · exact H.out.out hx
    · have := lt_of HC.out; omega

theorem store_sp (h : SIn w0 w s d F n V D N) {i : Int} (hp : isPage n i = true) (x : ByteArray) (hx : x.size = 256) :
    Calls Tryz.prog 37 #[.pointer (some ⟨s, 0, none⟩), .int .i64 i, .string x] w fun e w' => e = .returned .nilIface ∧ SStp w0 w w' s d F n (upd V i x) D N := by
  have H := Lib.hid h
  obtain ⟨p, S, hP, hS, hc⟩ := h.ex
  have c1 := cell_of hc 1
  simp at c1
  have hb := isPage_bd hp
  obtain ⟨l1, l2⟩ := hS.store hp hx
  have hL := store_in hP i x (wf_small (by omega)) (by omega)
  rw [l1] at hL
  have HL := Lib.hid hL
  have HC := Lib.hid hc
  have L2 := Lib.hid l2
  clear hL hc l1 l2 hS hP h hb hp hx
  go_enter Tryz.func37, Tryz.ntmps37
  go_wp2_with fail
  refine HL.out.mono ?_
  rintro e w1 ⟨rfl, hP1, hU⟩
  have HP1 := Lib.hid hP1
  have HU := Lib.hid hU
  clear hP1 hU HL
  go_wp2_with fail
  refine (fault_any _ _ _).mono ?_
  rintro e w2 ⟨v, rfl, hE, hB⟩
  obtain rfl : v = .nilIface := by rcases hE with ⟨_, h⟩ | ⟨h, _⟩; exact h; exact absurd rfl h
  have HB := Lib.hid hB
  clear hE hB
  go_wp2
  go_ret
  refine ⟨rfl, SStp.made H.out ⟨⟨⟨p, _, HP1.out, L2.out, ?_⟩, H.out.new, fun hx => ?_, H.out.glob⟩, HU.out⟩ HB.out⟩
  · exact (HU.out.block s (lt_of HC.out) H.out.out).trans HC.out
  · rcases hx with hx | hx
    · exact H.out.out hx
    · have := lt_of HC.out; omega

theorem store_form (h : SIn w0 w s d F n V D N) {i : Int} (hp : isPage n i = true) (x : ByteArray) (hx : x.size ≠ 256) (hsz : x.size ≤ 140737488355328) :
    Calls Tryz.prog 37 #[.pointer (some ⟨s, 0, none⟩), .int .i64 i, .string x] w fun e w' => ∃ v, e = .returned v ∧ ErrV w' v 3 ∧ SStp w0 w w' s d F n V D N := by
  have H := Lib.hid h
  obtain ⟨p, S, hP, hS, hc⟩ := h.ex
  have c1 := cell_of hc 1
  simp at c1
  have hb := isPage_bd hp
  have l1 : S.store i x = (3, S) := by unfold Pgr.store; rw [if_neg (by simpa using hS.sees.may hp), if_pos hx]
  have hL := store_in hP i x (wf_small (by omega)) hsz
  rw [l1] at hL
  have HL := Lib.hid hL
  have HC := Lib.hid hc
  have L2 := Lib.hid hS
  clear hL hc l1 hS hP h hb hp hx
  go_enter Tryz.func37, Tryz.ntmps37
  go_wp2_with fail
  refine HL.out.mono ?_
  rintro e w1 ⟨rfl, hP1, hU⟩
  have HP1 := Lib.hid hP1
  have HU := Lib.hid hU
  clear hP1 hU HL
  go_wp2_with fail
  refine (fault_any _ _ _).mono ?_
  rintro e w2 ⟨v, rfl, hE, hB⟩
  have HB := Lib.hid hB
  have HE := Lib.hid hE
  clear hE hB
  go_wp2
  go_ret
  refine ⟨_, rfl, HE.out, SStp.made H.out ⟨⟨⟨p, _, HP1.out, L2.out, ?_⟩, H.out.new, fun hx => ?_, H.out.glob⟩, HU.out⟩ HB.out⟩
  · exact (HU.out.block s (lt_of HC.out) H.out.out).trans HC.out
  · rcases hx with hx | hx
    · exact H.out.out hx
    · have := lt_of HC.out; omega
end
end Go.Proofs.YtdoankamaobkoaaGreatDoor
