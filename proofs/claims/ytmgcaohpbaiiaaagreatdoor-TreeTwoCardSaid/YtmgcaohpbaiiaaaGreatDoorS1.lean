/- The pager of a space, as plain data: what its pages show (V), what lies on the disk (D) · A space's first and last page, and the bits of its map · A space in memory; its first and last page, its name, load and store · A space: turn, taken, next · A space: next, Alloc, Release, Get, Put, Head, SetHead, Commit, Undo · append of one element of one cell · A space: Head, SetHead, Commit, Undo, Taken, Free · num.Get; strings.HasPrefix at the journal's mark · space.Open of a disk that is up and whose journal is done. -/
import Derived.Test.YtmgcaohpbaiiaaaGreatDoorJ2
import Derived.Test.YtmgcaohpbaiiaaaGreatDoorP1
import Derived.IntWalk
import Derived.Laws.Bits64
import Derived.Test.YtmgcaohpbaiiaaaGreatDoorErr
import Derived.Deep.RegionWith
import Derived.Lib.ConvBytes
import Derived.StillTailTactics
import Derived.Laws.BitsAllLaws
import Derived.Laws.BytesArg
import Derived.Deep.CutBlock
import Derived.Deep.DeepCutAuto
namespace Go.Proofs.YtmgcaohpbaiiaaaGreatDoor
/-! Sp -/
section
set_option linter.unusedSimpArgs false
set_option linter.unusedVariables false
open Go.RowKit Go.Maps Go.Shelf

/-- what a page shows: what was stored last, or else what lies on the disk -/
def Pgr.view (S : Pgr) (i : Int) : ByteArray := (get i S.changed).getD (S.disk.blk i)
/-- a page turned -/
def upd (V : Int → ByteArray) (i : Int) (s : ByteArray) : Int → ByteArray := fun k => if k = i then s else V k
theorem upd_same (V : Int → ByteArray) (i : Int) (s : ByteArray) : upd V i s i = s := by simp [upd]
theorem upd_other (V : Int → ByteArray) {i k : Int} (h : k ≠ i) (s : ByteArray) : upd V i s k = V k := by simp [upd, h]

theorem page_lt {n i : Int} (h1 : 64 ≤ n) (h2 : n ≤ 2048) (h : isPage n i = true) : 0 ≤ i ∧ i < n := by
  have hb := (isPage_bd h).1
  refine ⟨hb, ?_⟩
  have hp := jPages_pos h1 h2
  have hf := jPages_spec h1 h2
  unfold isPage jFirst at h
  rw [if_neg (by omega)] at h
  simp only [Bool.or_eq_true, Bool.and_eq_true, decide_eq_true_eq] at h
  rcases h with rfl | ⟨_, h⟩
  · omega
  · omega

/-- the pager of a space: the power is on, no pins, no told cut; V is what the pages show, D what lies on the disk; counts within N -/
structure Sp (S : Pgr) (n : Int) (V D : Int → ByteArray) (N : Int) : Prop where
  ok : S.Ok
  sees : Sees S n S.room 0 N
  view : ∀ i, isPage n i = true → S.view i = V i
  disk : ∀ i, isPage n i = true → S.disk.blk i = D i
  jour : S.disk.blk 1 = fill ⟨#[]⟩

/-- what a Commit writes lies on the disk, in whole blocks -/
theorem commit_all {S : Pgr} (hok : S.Ok) : ∀ q ∈ allL S.disk.n S.changed, 0 ≤ q.1 ∧ q.1 < S.disk.n ∧ q.2.size = 256 := by
  have hbl := hok.blocks
  have h1 : 64 ≤ S.disk.n := by unfold Dsk.n; omega
  have h2 : S.disk.n ≤ 2048 := by unfold Dsk.n; omega
  have hm := changed_may hok
  have hlow := allL_low h1 h2 (jMay_ok hm).1
  have hsz := allL_sizes S.disk.n (fun q hq => (hok.changed q hq).2)
  have hsplit : allL S.disk.n S.changed = (copiesL S.disk.n S.changed ++ (rowsL S.changed ++ [(1, jTop S.changed)])) ++ (S.changed ++ [(1, fill ⟨#[]⟩)]) := by simp [allL, homeL]
  intro q hq
  have hs := hsz q hq
  rw [hsplit] at hq
  rcases List.mem_append.1 hq with h | h
  · have := hlow q h; exact ⟨by omega, this.2.2, hs⟩
  · rcases List.mem_append.1 h with h | h
    · have := page_lt h1 h2 (hok.changed q h).1; exact ⟨this.1, this.2, hs⟩
    · simp at h; subst h; exact ⟨by simp, by simp; omega, hs⟩
theorem commit_jour {S : Pgr} (hok : S.Ok) (hup : S.disk.Up) (hj : S.disk.blk 1 = fill ⟨#[]⟩) : (S.disk.commit S.changed).2.blk 1 = fill ⟨#[]⟩ := by
  have hm := changed_may hok
  by_cases hz : S.changed = []
  · have e : S.disk.commit S.changed = (0, S.disk) := by unfold Dsk.commit; rw [if_neg (by omega), if_pos hz]
    rw [e]; exact hj
  · have e : S.disk.commit S.changed = S.disk.writes (allL S.disk.n S.changed) := by unfold Dsk.commit; rw [if_neg (by omega), if_neg hz]
    rw [e]
    obtain ⟨_, _, _, i4⟩ := Dsk.writes_up (allL S.disk.n S.changed) hup (commit_all hok)
    exact i4 (copiesL S.disk.n S.changed ++ (rowsL S.changed ++ ((1, jTop S.changed) :: S.changed))) (1, fill ⟨#[]⟩) [] (by simp [allL, homeL]) (by simp)

section
variable {S : Pgr} {n N : Int} {V D : Int → ByteArray} {i : Int}
theorem Sp.bd (h : Sp S n V D N) : 64 ≤ n ∧ n ≤ 2048 := by
  have h1 := h.ok.blocks
  have h2 := h.sees.n
  unfold Dsk.n at h2
  omega
theorem Sp.mono {M : Int} (h : Sp S n V D N) (hle : N ≤ M) : Sp S n V D M := ⟨h.ok, h.sees.mono hle, h.view, h.disk, h.jour⟩
theorem load_room (S : Pgr) (i : Int) : (S.load i).2.room = S.room := by
  unfold Pgr.load
  split
  · rfl
  · split
    · rfl
    · split
      · rfl
      · split
        · rfl
        · exact ((hold_rest (S := (S.read i).2) i (S.disk.read i).1).2.2.1).trans (read_held S i).2.2.2.2.1
theorem Sp.load (h : Sp S n V D N) (hp : isPage n i = true) : (S.load i).1 = (V i, 0) ∧ Sp (S.load i).2 n V D (N + 2) := by
  obtain ⟨b1, b2⟩ := page_lt h.bd.1 h.bd.2 hp
  obtain ⟨l1, l2, l3, l4⟩ := h.sees.load (Int.le_refl 0) hp b1 b2
  have hv : ∀ k, (S.load i).2.view k = S.view k := fun k => by unfold Pgr.view; rw [l2, l3]
  refine ⟨by rw [l1, ← h.view i hp]; rfl, load_ok h.ok i, by rw [load_room]; exact l4, fun k hk => by rw [hv]; exact h.view k hk, fun k hk => by rw [l3]; exact h.disk k hk, by rw [l3]; exact h.jour⟩
theorem Sp.store (h : Sp S n V D N) (hp : isPage n i = true) {s : ByteArray} (hs : s.size = 256) : (S.store i s).1 = 0 ∧ Sp (S.store i s).2 n (upd V i s) D N := by
  have hm := h.sees.may hp
  have hst := h.sees.store (i := i) s
  obtain ⟨r1, r2, r3, r4⟩ := store_rest S i s
  have e : S.store i s = (0, { S with held := del i S.held, changed := ins i s S.changed }) := by
    unfold Pgr.store
    rw [if_neg (by simpa using hm), if_neg (by simpa using hs)]
    cases hx : get i S.held with
    | none => rfl
    | some x =>
      have := h.sees.pins _ (get_mem hx)
      simp only at this ⊢
      rw [if_neg (by omega)]
  refine ⟨by rw [e], store_ok h.ok i s, by rw [r4]; exact hst, fun k hk => ?_, fun k hk => by rw [r1]; exact h.disk k hk, by rw [r1]; exact h.jour⟩
  have hv := h.view k hk
  unfold Pgr.view at hv ⊢
  rw [e]
  by_cases hki : k = i
  · subst hki; simp only [upd_same, get_ins_same]; rfl
  · rw [upd_other _ hki]; simp only [get_ins_other hki]; exact hv
theorem Sp.undo (h : Sp S n V D N) : Sp S.undo n D D N :=
  ⟨undo_ok h.ok, ⟨h.sees.clean, h.sees.up, h.sees.n, rfl, h.sees.clock, h.sees.reads, h.sees.pins, h.sees.log⟩, fun k hk => h.disk k hk, h.disk, h.jour⟩
theorem Sp.commit (h : Sp S n V D N) : S.commit.1 = 0 ∧ Sp S.commit.2 n V V (N + 4000) := by
  obtain ⟨c1, c2, c3⟩ := h.sees.commit h.ok (Int.le_refl 0)
  obtain ⟨e1, e2, e3, e4, e5, e6, e7, e8⟩ := commit_clean h.ok h.sees.up h.sees.clean
  obtain ⟨u1, u2, u3⟩ := commit_up h.ok h.sees.up
  have hd : ∀ k, isPage n k = true → S.commit.2.disk.blk k = V k := fun k hk => by
    rw [e5, u3 k (by rw [h.sees.n]; exact hk), ← h.view k hk]; rfl
  refine ⟨c1, commit_ok h.ok, by rw [e8]; exact c3, fun k hk => ?_, hd, by rw [e5]; exact commit_jour h.ok h.sees.up h.jour⟩
  rw [← hd k hk]
  unfold Pgr.view
  rw [c2]; rfl
end
end
/-! Bit -/
section
set_option linter.unusedSimpArgs false
set_option linter.unusedVariables false
open Go.RowKit Go.Maps

theorem sfirst_any (s : Nat) (n : Int) (w : World) (hc : w.cell? ⟨s, 0, none⟩ = some (.int .i64 n)) :
    Calls Tryz.prog 57 #[.pointer (some ⟨s, 0, none⟩)] w fun e w' => e = .returned (.int .i64 (jFirst n)) ∧ w = w' := by
  go_enter Tryz.func57, Tryz.ntmps57
  go_wp2_with (go_at_call 94; refine (first_any _ _).mono ?_; rintro e w' ⟨rfl, rfl⟩)
  go_ret
  exact ⟨rfl, rfl⟩
theorem slast_any (s : Nat) (n : Int) (w : World) (hc : w.cell? ⟨s, 0, none⟩ = some (.int .i64 n)) :
    Calls Tryz.prog 58 #[.pointer (some ⟨s, 0, none⟩)] w fun e w' => e = .returned (.int .i64 (jFirst n + jPages n - 2)) ∧ ∃ k, w' = w.drewN k := by
  have hb := jPages_bd n
  have hB := jFirst_bd n
  have h1 : IntKind.i64.wrap (jFirst n + jPages n) = jFirst n + jPages n := IntWalk.i64_in _ (by omega)
  have h2 : IntKind.i64.wrap (jFirst n + jPages n - 2) = jFirst n + jPages n - 2 := IntWalk.i64_in _ (by omega)
  have hF : ∀ k, Calls Tryz.prog 57 #[.pointer (some ⟨s, 0, none⟩)] (w.drewN k) fun e w' => e = .returned (.int .i64 (jFirst n)) ∧ ∃ m, w' = w.drewN m := fun k =>
    (sfirst_any s n (w.drewN k) hc).mono fun _ _ ⟨a, b⟩ => ⟨a, k, b.symm⟩
  have hG : ∀ k, Calls Tryz.prog 95 #[.int .i64 n] (w.drewN k) fun e w' => e = .returned (.int .i64 (jPages n)) ∧ ∃ m, w' = w.drewN m := fun k =>
    (pages_any n (w.drewN k)).mono fun _ _ ⟨a, b⟩ => ⟨a, k, b.symm⟩
  go_enter Tryz.func58, Tryz.ntmps58
  go_wp2
  go_quiet (first | (go_at_call 57; exact hF _) | (go_at_call 95; exact hG _))
  go_wp2
  go_ret
  exact ⟨rfl, nq, rfl⟩


/-- byte i of a text; behind its end 0 -/
def byteN (s : ByteArray) (i : Nat) : Nat := (s.data.toList.getD i 0).toNat
def bitB (s : ByteArray) (i : Nat) : Bool := byteN s (i / 8) / 2 ^ (i % 8) % 2 == 1
theorem wraps_u8 (n : Int) (h₀ : 0 ≤ n) (h₁ : n < 2 ^ 8) : IntKind.u8.wrap n = n := by rw [IntKind.wrap_u8]; omega
theorem u8_low (n : Nat) (h : n < 256) : bits BinOp.and IntKind.u8 (n : Int) 1 = (n : Int) % 2 :=
  bits_mask .u8 8 (by decide) wraps_u8 1 (by decide) n (by omega) (by omega)
theorem byteN_get (s : ByteArray) {i : Nat} (h : i < s.size) : byteN s i = s[i].toNat := by
  unfold byteN
  rw [List.getD_eq_getElem?_getD, List.getElem?_eq_getElem (by simpa using h)]
  rfl
theorem byteN_lt (s : ByteArray) (i : Nat) : byteN s i < 256 := UInt8.toNat_lt _
theorem bit_at (s : ByteArray) {i : Nat} (h : i / 8 < s.size) : (bits BinOp.and IntKind.u8 ((s[i / 8].toNat : Int) / 2 ^ (i % 8)) 1 == 1) = bitB s i := by
  have hb := byteN_lt s (i / 8)
  have hd : byteN s (i / 8) / 2 ^ (i % 8) ≤ byteN s (i / 8) := Nat.div_le_self _ _
  have e : ((s[i / 8].toNat : Int) / 2 ^ (i % 8)) = ((byteN s (i / 8) / 2 ^ (i % 8) : Nat) : Int) := by rw [byteN_get s h]; push_cast; rfl
  rw [e, u8_low _ (by omega)]
  unfold bitB
  generalize byteN s (i / 8) / 2 ^ (i % 8) = m
  rw [Bool.eq_iff_iff]; simp; omega
set_option maxRecDepth 100000 in
theorem sbit_any (s : Nat) (n : Int) (w : World) (hc : w.cell? ⟨s, 0, none⟩ = some (.int .i64 n)) (x : ByteArray) (hx : x.size = 256) (i : Nat) (hi : i < 2048) (at_ : Int) (hat : at_ = jFirst n + i) :
    Calls Tryz.prog 59 #[.pointer (some ⟨s, 0, none⟩), .string x, .int .i64 at_] w fun e w' => e = .returned (.bool (bitB x i)) ∧ w = w' := by
  subst hat
  have hF := jFirst_bd n
  have hd : i / 8 < x.size := by omega
  have hC := sfirst_any s n w hc
  have h1 : wrap64 (jFirst n + (i : Int) - jFirst n) = i := by rw [show jFirst n + (i : Int) - jFirst n = i by omega]; exact IntWalk.wrap64_in _ (by omega)
  have H1 := Lib.hid h1
  clear h1 hc
  generalize jFirst n = f at *
  have e1 : f + (i : Int) - f = i := by omega
  go_enter Tryz.func59, Tryz.ntmps59
  go_wp2_with (go_at_call 57; refine hC.mono ?_; rintro e w' ⟨rfl, rfl⟩)
  go_ret
  exact ⟨congrArg (fun b => Ending.returned (Value.bool b)) (bit_at x hd), rfl⟩
end
/-! Sp1 -/
section
set_option linter.unusedSimpArgs false
set_option linter.unusedVariables false
open Go.RowKit Go.Maps Go.Shelf

/-- a space that lies in what was made since w0: its block s, on the disk d; V is what its pages show, D what lies on the disk -/
structure SIn (w0 w : World) (s d : Nat) (F : Nat → Prop) (n : Int) (V D : Int → ByteArray) (N : Int) : Prop where
  ex : ∃ p S, PIn w0 w p d F S ∧ Sp S n V D N ∧ w.heap[s]? = some (.cells #[.int .i64 n, .pointer (some ⟨p, 0, none⟩)] 118 (0, 0))
  new : w0.heap.size ≤ s
  out : ¬ F s
  glob : Glob w0
theorem drewN_below (w : World) (k : Nat) : Below w.heap.size w (w.drewN k) := ⟨rfl, rfl, rfl, Nat.le_refl _, fun _ _ => rfl⟩
theorem Glob.below {w0 w : World} (h : Glob w0) (hB : Below w0.heap.size w0 w) : Glob w := by
  unfold Glob at h ⊢
  exact (hB.cell (p := ⟨0, 0, none⟩) (World.block_lt_of_cell? w0 _ h)).trans h
section
variable {w0 w w1 w2 : World} {s d : Nat} {F : Nat → Prop} {n N M : Int} {V D V' D' : Int → ByteArray}
theorem SIn.globW (h : SIn w0 w s d F n V D N) : Glob w := by obtain ⟨p, S, hP, _, _⟩ := h.ex; exact h.glob.below hP.below
theorem SIn.below (h : SIn w0 w s d F n V D N) : Below w0.heap.size w0 w := by obtain ⟨p, S, hP, _, _⟩ := h.ex; exact hP.below
theorem SIn.bd (h : SIn w0 w s d F n V D N) : 64 ≤ n ∧ n ≤ 2048 := by obtain ⟨p, S, _, hS, _⟩ := h.ex; exact hS.bd
theorem SIn.cell0 (h : SIn w0 w s d F n V D N) : w.cell? ⟨s, 0, none⟩ = some (.int .i64 n) := by obtain ⟨p, S, _, _, hc⟩ := h.ex; rw [cell_of hc]; rfl
theorem SIn.made (h : SIn w0 w s d F n V D N) (hB : Below w.heap.size w w1) : SIn w0 w1 s d F n V D N := by
  obtain ⟨p, S, hP, hS, hc⟩ := h.ex
  exact ⟨⟨p, S, hP.made hB, hS, (hB.block s (lt_of hc)).trans hc⟩, h.new, h.out, h.glob⟩
theorem SIn.drewN (h : SIn w0 w s d F n V D N) (k : Nat) : SIn w0 (w.drewN k) s d F n V D N := h.made ⟨rfl, rfl, rfl, Nat.le_refl _, fun _ _ => rfl⟩
theorem SIn.alloc (h : SIn w0 w s d F n V D N) (o : Obj) : SIn w0 (w.alloc o) s d F n V D N := h.made ((Below.refl _ w).alloc (Nat.le_refl _) o)
theorem SIn.mono (h : SIn w0 w s d F n V D N) (hle : N ≤ M) : SIn w0 w s d F n V D M := by
  obtain ⟨p, S, hP, hS, hc⟩ := h.ex
  exact ⟨⟨p, S, hP, hS.mono hle, hc⟩, h.new, h.out, h.glob⟩
/-- behind a call: the space shows V', on the blocks that it had and new ones; nothing else has turned -/
structure SStp (w0 w w' : World) (s d : Nat) (F : Nat → Prop) (n : Int) (V' D' : Int → ByteArray) (N : Int) : Prop where
  sin : SIn w0 w' s d (ext F w w') n V' D' N
  upd : Upd F w w'
theorem SIn.refl (h : SIn w0 w s d F n V D N) : SStp w0 w w s d F n V D N := by
  refine ⟨?_, Upd.refl _ _⟩
  obtain ⟨p, S, hP, hS, hc⟩ := h.ex
  refine ⟨⟨p, S, ⟨hP.pat.mono fun _ hb => .inl hb, fun b hb => ?_, hP.below⟩, hS, hc⟩, h.new, fun hx => ?_, h.glob⟩
  · rcases hb with hb | hb
    · exact hP.new b hb
    · omega
  · rcases hx with hx | hx
    · exact h.out hx
    · omega
theorem ext_ext {b : Nat} (h1 : w.heap.size ≤ w1.heap.size) (h2 : w1.heap.size ≤ w2.heap.size) (h : ext (ext F w w1) w1 w2 b) : ext F w w2 b := by
  rcases h with (h | h) | h
  · exact .inl h
  · exact .inr ⟨h.1, by omega⟩
  · exact .inr ⟨by omega, h.2⟩
theorem SIn.monoF {G : Nat → Prop} (h : SIn w0 w s d F n V D N) (hg : ∀ b, F b → G b) (hn : ∀ b, G b → w0.heap.size ≤ b) (ho : ¬ G s) : SIn w0 w s d G n V D N := by
  obtain ⟨p, S, hP, hS, hc⟩ := h.ex
  exact ⟨⟨p, S, ⟨hP.pat.mono hg, hn, hP.below⟩, hS, hc⟩, h.new, ho, h.glob⟩
theorem SIn.newF (h : SIn w0 w s d F n V D N) : ∀ b, F b → w0.heap.size ≤ b := by obtain ⟨p, S, hP, _, _⟩ := h.ex; exact hP.new
theorem SIn.slt (h : SIn w0 w s d F n V D N) : s < w.heap.size := by obtain ⟨p, S, _, _, hc⟩ := h.ex; exact lt_of hc
theorem SStp.trans {N0 : Int} {V0 D0 : Int → ByteArray} (h0 : SIn w0 w s d F n V0 D0 N0) (h : SStp w0 w w1 s d F n V D M) (k : SStp w0 w1 w2 s d (ext F w w1) n V' D' N) : SStp w0 w w2 s d F n V' D' N := by
  have hs1 := h.upd.size
  have hs2 := k.upd.size
  have hb := h0.below.size
  have hsl := h0.slt
  refine ⟨k.sin.monoF (fun b hb => ext_ext hs1 hs2 hb) (fun b hb => ?_) (fun hx => ?_), h.upd.then k.upd fun x hx hf => ?_⟩
  · rcases hb with hb | hb
    · exact h0.newF b hb
    · omega
  · rcases hx with hx | hx
    · exact h0.out hx
    · omega
  · rcases hf with hf | hf
    · exact hf
    · omega
theorem SStp.made {N0 : Int} (h0 : SIn w0 w s d F n V D N0) (h : SStp w0 w w1 s d F n V' D' M) (hB : Below w1.heap.size w1 w2) : SStp w0 w w2 s d F n V' D' M := by
  have hs1 := h.upd.size
  have hs2 := hB.size
  have hb := h0.below.size
  have hsl := h0.slt
  refine ⟨(h.sin.made hB).monoF (fun b hb => ?_) (fun b hb => ?_) (fun hx => ?_), h.upd.trans (Upd.below hB fun x hx hle => by omega)⟩
  · rcases hb with hb | hb
    · exact .inl hb
    · exact .inr ⟨hb.1, by omega⟩
  · rcases hb with hb | hb
    · exact h0.newF b hb
    · omega
  · rcases hx with hx | hx
    · exact h0.out hx
    · omega
theorem SStp.after {N0 : Int} (h0 : SIn w0 w s d F n V D N0) (hB : Below w.heap.size w w1) (k : SStp w0 w1 w2 s d F n V' D' M) : SStp w0 w w2 s d F n V' D' M := by
  have hs1 := hB.size
  have hs2 := k.upd.size
  have hb := h0.below.size
  have hsl := h0.slt
  refine ⟨k.sin.monoF (fun b hb => ?_) (fun b hb => ?_) (fun hx => ?_), (Upd.below hB fun x hx hle => by omega).trans k.upd⟩
  · rcases hb with hb | hb
    · exact .inl hb
    · exact .inr ⟨by omega, hb.2⟩
  · rcases hb with hb | hb
    · exact h0.newF b hb
    · omega
  · rcases hx with hx | hx
    · exact h0.out hx
    · omega
theorem SStp.mono (h : SStp w0 w w1 s d F n V D N) (hle : N ≤ M) : SStp w0 w w1 s d F n V D M := ⟨h.sin.mono hle, h.upd⟩
end

/-! ### numbers of pages -/
theorem jDown_ge {n : Int} {m : Nat} (hm : 2 * (m : Int) + 1 + jBlocks m ≤ n) : ∀ {k : Nat}, m ≤ k → m ≤ jDown n k
  | 0, h => by omega
  | k + 1, h => by
    unfold jDown
    split
    · rename_i hk
      rcases Nat.lt_or_ge k m with hlt | hge
      · have : m = k + 1 := by omega
        subst this
        exfalso
        simp only [Int.natCast_add, Int.natCast_one, Int.cast_ofNat_Int] at hm hk
        omega
      · exact jDown_ge hm hge
    · exact h
theorem pages_many {n : Int} (h1 : 64 ≤ n) (h2 : n ≤ 2048) : 31 ≤ jPages n := by
  unfold jPages
  rw [if_neg (by omega)]
  have e : jBlocks 31 = 1 := by decide
  have h3 : 2 * ((31 : Nat) : Int) + 1 + jBlocks ((31 : Nat) : Int) ≤ n := by
    show 2 * (31 : Int) + 1 + jBlocks (31 : Int) ≤ n
    omega
  have := jDown_ge (n := n) (m := 31) h3 (k := ((n - 1) / 2).toNat) (by omega)
  omega
theorem first_eq {n : Int} (h1 : 64 ≤ n) (h2 : n ≤ 2048) : jFirst n = 2 + jBlocks (jPages n) + jPages n := by
  have := pages_many h1 h2
  unfold jFirst; rw [if_neg (by omega)]
theorem page_zero (n : Int) : isPage n 0 = true := by simp [isPage]
theorem page_in {n i : Int} (h1 : jFirst n ≤ i) (h2 : i ≤ jFirst n + jPages n - 2) : isPage n i = true := by
  unfold isPage; simp only [Bool.or_eq_true, Bool.and_eq_true, decide_eq_true_eq]; omega
theorem first_pos {n : Int} (h1 : 64 ≤ n) (h2 : n ≤ 2048) : 34 ≤ jFirst n := by
  have := pages_many h1 h2
  have := jBlocks_le (m := jPages n) (by omega)
  have h3 : 1 ≤ jBlocks (jPages n) := by unfold jBlocks; omega
  rw [first_eq h1 h2]; omega

section
variable {w0 w : World} {s d : Nat} {F : Nat → Prop} {n N : Int} {V D : Int → ByteArray}
/-- what the head page begins with -/
def spName (n : Int) : ByteArray := ⟨#[97, 117, 109, 98, 114, 121]⟩ ++ putB n.toNat 2
theorem spName_size (n : Int) : (spName n).size = 8 := by unfold spName; rw [ByteArray.size_append, putB_size]; rfl
theorem sname_any (s : Nat) (n : Int) (w : World) (hc : w.cell? ⟨s, 0, none⟩ = some (.int .i64 n)) (h1 : 64 ≤ n) (h2 : n ≤ 2048) :
    Calls Tryz.prog 67 #[.pointer (some ⟨s, 0, none⟩)] w fun e w' => e = .returned (.string (spName n)) ∧ Below w.heap.size w w' := by
  obtain ⟨k, rfl⟩ : ∃ k : Nat, n = k := ⟨n.toNat, by omega⟩
  have hP := put_any k 2 w (by omega) (by omega) (by omega)
  have hsz := putB_size k 2
  unfold spName
  rw [show ((k : Int)).toNat = k by omega]
  generalize putB k 2 = x at *
  go_enter Tryz.func67, Tryz.ntmps67
  go_wp2_with fail
  refine hP.mono ?_
  rintro e w' ⟨rfl, hB⟩
  have HB := Lib.hid hB
  clear hB hP
  go_wp2
  go_ret
  exact ⟨rfl, HB.out⟩

theorem load_sp (h : SIn w0 w s d F n V D N) {i : Int} (hp : isPage n i = true) (hN : N < 2305843009213693952) :
    Calls Tryz.prog 55 #[.pointer (some ⟨s, 0, none⟩), .int .i64 i] w fun e w' => e = .returned (.tuple #[.string (V i), .nilIface]) ∧ SStp w0 w w' s d F n V D (N + 2) := by
  have H := Lib.hid h
  obtain ⟨p, S, hP, hS, hc⟩ := h.ex
  have c1 := cell_of hc 1
  simp at c1
  have hb := isPage_bd hp
  have hck := hS.sees.clock
  have hrd := hS.sees.reads
  obtain ⟨l1, l2⟩ := hS.load hp
  have hL := load_in hP i (wf_small (by omega)) (by omega) (by omega)
  rw [l1] at hL
  have HL := Lib.hid hL
  have HC := Lib.hid hc
  have L2 := Lib.hid l2
  clear hL hc l1 l2 hS hP h hck hrd hb hp hN
  generalize V i = x at *
  go_enter Tryz.func55, Tryz.ntmps55
  go_wp2_with fail
  refine HL.out.mono ?_
  rintro e w1 ⟨rfl, hP1, hU⟩
  have HP1 := Lib.hid hP1
  have HU := Lib.hid hU
  clear hP1 hU HL
  go_wp2_with fail
  refine (fault_any _ _ _).mono ?_
  rintro e w2 ⟨v, rfl, hE, hB⟩
  obtain rfl : v = .nilIface := by rcases hE with ⟨_, h⟩ | ⟨h, _⟩; exact h; exact absurd rfl h
  have HB := Lib.hid hB
  clear hE hB
  go_wp2
  go_ret2
  refine ⟨rfl, SStp.made H.out ⟨⟨⟨p, _, HP1.out, L2.out, ?_⟩, H.out.new, fun hx => ?_, H.out.glob⟩, HU.out⟩ HB.out⟩
  · exact (HU.out.block s (lt_of HC.out) H.out.out).trans HC.out
  · rcases hx with hx | hx
    · exact H.out.out hx
    · have := lt_of HC.out; omega

theorem store_sp (h : SIn w0 w s d F n V D N) {i : Int} (hp : isPage n i = true) (x : ByteArray) (hx : x.size = 256) :
    Calls Tryz.prog 116 #[.pointer (some ⟨s, 0, none⟩), .int .i64 i, .string x] w fun e w' => e = .returned .nilIface ∧ SStp w0 w w' s d F n (upd V i x) D N := by
  have H := Lib.hid h
  obtain ⟨p, S, hP, hS, hc⟩ := h.ex
  have c1 := cell_of hc 1
  simp at c1
  have hb := isPage_bd hp
  obtain ⟨l1, l2⟩ := hS.store hp hx
  have hL := store_in hP i x (wf_small (by omega)) (by omega)
  rw [l1] at hL
  have HL := Lib.hid hL
  have HC := Lib.hid hc
  have L2 := Lib.hid l2
  clear hL hc l1 l2 hS hP h hb hp hx
  go_enter Tryz.func116, Tryz.ntmps116
  go_wp2_with fail
  refine HL.out.mono ?_
  rintro e w1 ⟨rfl, hP1, hU⟩
  have HP1 := Lib.hid hP1
  have HU := Lib.hid hU
  clear hP1 hU HL
  go_wp2_with fail
  refine (fault_any _ _ _).mono ?_
  rintro e w2 ⟨v, rfl, hE, hB⟩
  obtain rfl : v = .nilIface := by rcases hE with ⟨_, h⟩ | ⟨h, _⟩; exact h; exact absurd rfl h
  have HB := Lib.hid hB
  clear hE hB
  go_wp2
  go_ret
  refine ⟨rfl, SStp.made H.out ⟨⟨⟨p, _, HP1.out, L2.out, ?_⟩, H.out.new, fun hx => ?_, H.out.glob⟩, HU.out⟩ HB.out⟩
  · exact (HU.out.block s (lt_of HC.out) H.out.out).trans HC.out
  · rcases hx with hx | hx
    · exact H.out.out hx
    · have := lt_of HC.out; omega

theorem store_form (h : SIn w0 w s d F n V D N) {i : Int} (hp : isPage n i = true) (x : ByteArray) (hx : x.size ≠ 256) (hsz : x.size ≤ 140737488355328) :
    Calls Tryz.prog 116 #[.pointer (some ⟨s, 0, none⟩), .int .i64 i, .string x] w fun e w' => ∃ v, e = .returned v ∧ ErrV w' v 3 ∧ SStp w0 w w' s d F n V D N := by
  have H := Lib.hid h
  obtain ⟨p, S, hP, hS, hc⟩ := h.ex
  have c1 := cell_of hc 1
  simp at c1
  have hb := isPage_bd hp
  have l1 : S.store i x = (3, S) := by unfold Pgr.store; rw [if_neg (by simpa using hS.sees.may hp), if_pos hx]
  have hL := store_in hP i x (wf_small (by omega)) hsz
  rw [l1] at hL
  have HL := Lib.hid hL
  have HC := Lib.hid hc
  have L2 := Lib.hid hS
  clear hL hc l1 hS hP h hb hp hx
  go_enter Tryz.func116, Tryz.ntmps116
  go_wp2_with fail
  refine HL.out.mono ?_
  rintro e w1 ⟨rfl, hP1, hU⟩
  have HP1 := Lib.hid hP1
  have HU := Lib.hid hU
  clear hP1 hU HL
  go_wp2_with fail
  refine (fault_any _ _ _).mono ?_
  rintro e w2 ⟨v, rfl, hE, hB⟩
  have HB := Lib.hid hB
  have HE := Lib.hid hE
  clear hE hB
  go_wp2
  go_ret
  refine ⟨_, rfl, HE.out, SStp.made H.out ⟨⟨⟨p, _, HP1.out, L2.out, ?_⟩, H.out.new, fun hx => ?_, H.out.glob⟩, HU.out⟩ HB.out⟩
  · exact (HU.out.block s (lt_of HC.out) H.out.out).trans HC.out
  · rcases hx with hx | hx
    · exact H.out.out hx
    · have := lt_of HC.out; omega
end
end
/-! Sp2 -/
section
set_option linter.unusedSimpArgs false
set_option linter.unusedVariables false
open Go.RowKit Go.Maps Go.Shelf

/-! ### bits as plain data -/
def flipB (s : ByteArray) (i : Nat) : ByteArray := ⟨(s.data.toList.set (i / 8) (UInt8.ofNat (byteN s (i / 8) ^^^ 2 ^ (i % 8)))).toArray⟩
theorem flipB_size (s : ByteArray) (i : Nat) : (flipB s i).size = s.size := by
  show ((s.data.toList.set (i / 8) (UInt8.ofNat (byteN s (i / 8) ^^^ 2 ^ (i % 8)))).toArray).size = s.data.size
  rw [List.size_toArray, List.length_set, Array.length_toList]
theorem bitB_test (s : ByteArray) (i : Nat) : bitB s i = (byteN s (i / 8)).testBit (i % 8) := by
  unfold bitB
  rw [Nat.testBit_eq_decide_div_mod_eq]
  rfl
theorem byteN_flip (s : ByteArray) {i : Nat} (h : i / 8 < s.size) (k : Nat) : byteN (flipB s i) k = if k = i / 8 then byteN s (i / 8) ^^^ 2 ^ (i % 8) else byteN s k := by
  unfold byteN flipB
  simp only [List.getD_eq_getElem?_getD, List.getElem?_set]
  by_cases e : k = i / 8
  · subst e
    have hl : i / 8 < s.data.toList.length := by simpa using h
    rw [if_pos rfl, if_pos rfl, if_pos hl]
    simp only [Option.getD_some]
    have hx : byteN s (i / 8) ^^^ 2 ^ (i % 8) < 2 ^ 8 := Nat.xor_lt_two_pow (byteN_lt s (i / 8)) (Nat.pow_lt_pow_right (by omega) (Nat.mod_lt _ (by omega)))
    show (UInt8.ofNat (byteN s (i / 8) ^^^ 2 ^ (i % 8))).toNat = _
    rw [UInt8.toNat_ofNat_of_lt' hx]
    unfold byteN
    rw [List.getD_eq_getElem?_getD]
  · rw [if_neg (fun e' => e e'.symm), if_neg e]
theorem bitB_flip (s : ByteArray) {i : Nat} (h : i / 8 < s.size) (j : Nat) : bitB (flipB s i) j = if j = i then !bitB s i else bitB s j := by
  rw [bitB_test, byteN_flip s h]
  by_cases e : j / 8 = i / 8
  · rw [if_pos e, Nat.testBit_xor, Nat.testBit_two_pow]
    by_cases e2 : j = i
    · subst e2
      rw [if_pos rfl, bitB_test]
      simp
    · rw [if_neg e2, bitB_test, e]
      have : ¬ (i % 8 = j % 8) := fun e3 => e2 (by omega)
      simp [this]
  · rw [if_neg e, if_neg (fun e2 => e (by rw [e2])), bitB_test]

theorem flip_value (x : ByteArray) {i : Nat} (h : i / 8 < x.size) : (.int .u8 (bits BinOp.xor IntKind.u8 (byteN x (i / 8) : Int) (2 ^ (i % 8) % 256)) : Value) = .int .u8 ((byteN (flipB x i) (i / 8) : Nat) : Int) := by
  obtain ⟨m, hm⟩ : ∃ m, m = 2 ^ (i % 8) := ⟨_, rfl⟩
  have hp : m < 256 := by rw [hm]; exact Nat.lt_of_lt_of_le (Nat.pow_lt_pow_right (by omega) (Nat.mod_lt i (by omega : 0 < 8))) (by decide)
  have e0 : (2 : Int) ^ (i % 8) = (m : Int) := by rw [hm]; push_cast; rfl
  have e : (2 : Int) ^ (i % 8) % 256 = (m : Int) := by rw [e0]; omega
  rw [e, u8_xor_nat _ _ (byteN_lt x _) hp, byteN_flip x h, if_pos rfl, hm]
theorem flip_cell {w : World} {g : Nat} {cs : Array Value} {T : TypeId} {fr : Nat × Nat} {x : ByteArray} {i : Nat} (hod : w.heap[g]? = some (.cells cs T fr)) (hcs : ∀ j, j < x.size → cs[j]? = some (.int .u8 (byteN x j))) (hx : x.size = 256) (hi : i < 2048) (j : Nat) (hj : j < 256) :
    (w.setCell ⟨g, i / 8, none⟩ (.int .u8 ((byteN (flipB x i) (i / 8) : Nat) : Int))).cell? ⟨g, 0 + j, none⟩ = some (.int .u8 (((List.range 256).map fun j => ((byteN (flipB x i) j : Nat) : Int)).getD j 0)) := by
  have hd : i / 8 < x.size := by omega
  have hcl : i / 8 < cs.size := by
    have := hcs (i / 8) hd
    rw [Array.getElem?_eq_some_iff] at this
    exact this.1
  rw [cell_of (heap_setCell_same hod _ _), Nat.zero_add, List.getD_eq_getElem?_getD, List.getElem?_map, List.getElem?_range hj]
  simp only [Option.map_some, Option.getD_some]
  by_cases e : j = i / 8
  · subst e
    simp [hcl]
  · rw [byteN_flip x hd j, if_neg e, Array.getElem?_setIfInBounds, if_neg (fun h => e h.symm), hcs j (by omega)]
theorem strOf_bytes {s : ByteArray} (h : s.size = 256) : strOfNums ((List.range 256).map fun j => ((byteN s j : Nat) : Int)) = s := by
  unfold strOfNums
  have : (((List.range 256).map fun j => ((byteN s j : Nat) : Int)).map fun n => UInt8.ofNat n.toNat) = s.data.toList := by
    apply List.ext_getElem?
    intro j
    rw [List.map_map, List.getElem?_map]
    by_cases hj : j < 256
    · rw [List.getElem?_range hj]
      have hj' : j < s.data.toList.length := by rw [Array.length_toList]; show j < s.size; omega
      simp only [Option.map_some, Function.comp_def]
      rw [List.getElem?_eq_getElem hj']
      congr 1
      unfold byteN
      rw [List.getD_eq_getElem?_getD, List.getElem?_eq_getElem hj', Option.getD_some, Int.toNat_natCast, UInt8.ofNat_toNat]
    · rw [List.getElem?_eq_none (by simpa using hj), List.getElem?_eq_none (by rw [Array.length_toList]; show s.size ≤ j; omega)]; rfl
  rw [this]

/-- how many pages are the user's -/
def spMany (n : Int) : Nat := (jPages n - 2).toNat
theorem spMany_bd {n : Int} (h1 : 64 ≤ n) (h2 : n ≤ 2048) : 29 ≤ spMany n ∧ spMany n ≤ 1022 ∧ ((spMany n : Nat) : Int) = jPages n - 2 := by
  have := pages_many h1 h2
  have := jPages_bd n
  unfold spMany; omega
/-- may a page be asked for? -/
def spTaken (n : Int) (V : Int → ByteArray) (i : Int) : Int := if i ≤ jFirst n ∨ jFirst n + jPages n - 2 < i then 1 else if bitB (V (jFirst n)) (i - jFirst n).toNat then 0 else 8
/-- the least free one of the user's pages -/
def spNext (n : Int) (x : ByteArray) : Option Nat := (List.range (spMany n)).find? fun j => !bitB x (j + 1)

section
variable {w0 w : World} {s d : Nat} {F : Nat → Prop} {n N : Int} {V D : Int → ByteArray}
theorem SIn.size (h : SIn w0 w s d F n V D N) {i : Int} (hp : isPage n i = true) : (V i).size = 256 := by
  obtain ⟨p, S, _, hS, _⟩ := h.ex
  rw [← hS.view i hp]
  unfold Pgr.view
  cases hg : get i S.changed with
  | some x => exact (hS.ok.changed _ (get_mem hg)).2
  | none =>
    obtain ⟨b1, b2⟩ := page_lt hS.bd.1 hS.bd.2 hp
    refine hS.ok.sizes _ ?_
    have := hS.sees.n
    unfold Dsk.n at this
    unfold Dsk.blk
    rw [List.getD_eq_getElem?_getD, List.getElem?_eq_getElem (by omega)]
    exact List.getElem_mem _

set_option maxHeartbeats 1000000 in
set_option maxRecDepth 100000 in
theorem turn_sp (h : SIn w0 w s d F n V D N) (i : Nat) (hi : i < 2048) (at_ : Int) (hat : at_ = jFirst n + i) (hN : N < 2305843009213693952) :
    Calls Tryz.prog 82 #[.pointer (some ⟨s, 0, none⟩), .int .i64 at_] w fun e w' => e = .returned .nilIface ∧ SStp w0 w w' s d F n (upd V (jFirst n) (flipB (V (jFirst n)) i)) D (N + 2) := by
  subst hat
  have hbd := h.bd
  have hF := jFirst_bd n
  have hpg : isPage n (jFirst n) = true := page_in (by omega) (by have := pages_many hbd.1 hbd.2; omega)
  have hx := h.size hpg
  have hc := h.cell0
  have hC := sfirst_any s n w hc
  have H := Lib.hid h
  have hL := load_sp h hpg hN
  have HL := Lib.hid hL
  have hd : i / 8 < (V (jFirst n)).size := by omega
  have HV : Hid (∃ x, x = V (jFirst n)) := ⟨_, rfl⟩
  clear h hL hc
  generalize hxx : V (jFirst n) = x at *
  go_enter Tryz.func82, Tryz.ntmps82
  go_wp2_with (go_at_call 57; refine hC.mono ?_; rintro e w' ⟨rfl, rfl⟩)
  refine HL.out.mono ?_
  rintro e w1 ⟨rfl, hS1⟩
  have HS1 := Lib.hid hS1
  have hsl := hS1.sin.slt
  obtain ⟨w2, hw2⟩ : ∃ w2, w2 = Lib.bytesWorld w1 5 x := ⟨_, rfl⟩
  obtain ⟨g, HG⟩ : ∃ g, Hid (w1.heap.size = g) := ⟨_, Lib.hid rfl⟩
  have hB2 : Below w1.heap.size w1 w2 := by
    rw [hw2]
    exact ⟨rfl, rfl, rfl, by rw [Lib.bytesWorld_size]; omega, fun b hb => Lib.bytesWorld_at_old w1 _ x b hb⟩
  have hK := Lib.run_convert_string_bytes (P := Tryz.prog) w1 9 154 5 x Tryz.underlying9 Tryz.underlying154 Tryz.underlying5
  have hobj : w2.heap[w1.heap.size]? = some (.cells (Lib.bytesCells w1 5 x) 5 ((Lib.bytesCells w1 5 x).size, (Lib.bytesCells w1 5 x).size + 1)) := by rw [hw2]; exact Lib.bytesWorld_at_new w1 _ x
  rw [HG.out] at hobj
  rw [← hw2, HG.out] at hK
  have hcc : ∀ j, j < x.size → (Lib.bytesCells w1 5 x)[j]? = some (.int .u8 (byteN x j)) := fun j hj => by
    have h1 := Lib.bytesWorld_cell w1 5 x j hj
    rw [← hw2, HG.out] at h1
    have h2 : w2.cell? ⟨g, j, none⟩ = (Lib.bytesCells w1 5 x)[j]? := by simp [World.cell?, hobj]
    rw [← h2, h1]; rfl
  generalize Lib.bytesCells w1 5 x = cs at *
  generalize grownCap w1 x.size 0 5 = cp at *
  have hC1 := sfirst_any s n w2 (hS1.sin.made hB2).cell0
  have HB2 := Lib.hid hB2
  have hcsz : x.size ≤ cs.size := by
    by_cases h : cs.size < x.size
    · have := hcc cs.size h; simp at this
    · omega
  have HOBJ := Lib.hid hobj
  have HCC := Lib.hid hcc
  have HXX := Lib.hid hxx
  have cB : w2.cell? ⟨g, i / 8, none⟩ = some (.int .u8 (byteN x (i / 8))) := by
    have := hcc (i / 8) hd
    simp [World.cell?, hobj, this]
  have fB : w2.frozen? ⟨g, i / 8, none⟩ = false := by
    simp [World.frozen?, hobj]; omega
  have hg : g < w2.heap.size := lt_of hobj
  clear hS1 HL hw2 hB2 hobj hcc hxx
  have hbb := byteN_lt x (i / 8)
  obtain ⟨bt, HBT⟩ : ∃ bt, Hid (byteN x (i / 8) = bt) := ⟨_, Lib.hid rfl⟩
  rw [HBT.out] at hbb cB
  have HPG := Lib.hid hpg
  obtain ⟨f, HFN⟩ : ∃ f, Hid (jFirst n = f) := ⟨_, Lib.hid rfl⟩
  rw [HFN.out] at hF hC hC1 ⊢
  clear hpg
  have hfi : wrap64 (f + (i : Int) - f) = i := by rw [show f + (i : Int) - f = i by omega]; exact IntWalk.wrap64_in _ (by omega)
  have e1 : f + (i : Int) - f = i := by omega
  go_upto_region 6 with (go_at_call 57; refine hC1.mono ?_; rintro e w' ⟨rfl, rfl⟩)
  refine wp_region_still_tail 10 (by kernel_rfl) (by kernel_rfl) ?_
  generalize hwd : ({ w2 with drawn := w2.drawn + 1 } : World) = wd at *
  have cD : wd.cell? ⟨g, i / 8, none⟩ = some (.int .u8 bt) := by rw [← hwd]; exact cB
  have fD : wd.frozen? ⟨g, i / 8, none⟩ = false := by rw [← hwd]; exact fB
  have HWD := Lib.hid hwd
  clear hwd cB fB
  have hq : IntKind.i64.wrap ((i : Int) / 8) = ((i / 8 : Nat) : Int) := by rw [show ((i / 8 : Nat) : Int) = (i : Int) / 8 by omega]; exact IntWalk.i64_in _ (by omega)
  have hr : IntKind.i64.wrap ((i : Int) % 8) = ((i % 8 : Nat) : Int) := by rw [show ((i % 8 : Nat) : Int) = (i : Int) % 8 by omega]; exact IntWalk.i64_in _ (by omega)
  have hr' : (i : Int).tmod 8 = (i : Int) % 8 := Int.tmod_eq_emod_of_nonneg (by omega)
  have hi1 : (0 : Int) ≤ (i : Int) / 8 := by omega
  have hi2 : (i : Int) / 8 < 256 := by omega
  have hi3 : ((i : Int) / 8).toNat = i / 8 := by omega
  have hj1 : (0 : Int) ≤ (i : Int) % 8 := by omega
  have hj3 : ((i : Int) % 8).toNat = i % 8 := by omega
  simp only [List.take_succ_cons, List.take_zero, List.drop_succ_cons, List.drop_zero]
  repeat still_step
  refine wpStill_nil ?_
  go_upto_region 7 with fail
  have hcl : i / 8 < cs.size := by omega
  obtain ⟨w3, hw3⟩ : ∃ w3, w3 = wd.setCell ⟨g, i / 8, none⟩ (.int .u8 (bits BinOp.xor IntKind.u8 (bt : Int) (2 ^ (i % 8) % 256))) := ⟨_, rfl⟩
  rw [← hw3]
  have hv := flip_value x (i := i) (by omega)
  rw [HBT.out] at hv
  rw [hv] at hw3
  have hB3 : Below w1.heap.size w1 w3 := by
    have hb2 := HB2.out
    rw [HG.out] at hb2 ⊢
    rw [hw3, ← HWD.out]
    refine hb2.trans ((show Below g w2 { w2 with drawn := w2.drawn + 1 } from ⟨rfl, rfl, rfl, Nat.le_refl _, fun _ _ => rfl⟩).setCell (p := ⟨g, i / 8, none⟩) (Nat.le_refl g) _)
  have hcell : ∀ j, j < 256 → w3.cell? ⟨g, 0 + j, none⟩ = some (.int .u8 (((List.range 256).map fun j => ((byteN (flipB x i) j : Nat) : Int)).getD j 0)) := by
    intro j hj
    rw [hw3]
    exact flip_cell (by rw [← HWD.out]; exact HOBJ.out) HCC.out hx hi j hj
  have HB3 := Lib.hid hB3
  have HCELL := Lib.hid hcell
  clear hw3 hB3 hcell hv cD fD hq hr hr' hi1 hi2 hi3 hj1 hj3 hfi e1 HWD HCC HOBJ HBT hC hC1 hK
  refine wp_region_still_tail 5 (by kernel_rfl) (by kernel_rfl) ?_
  generalize hwd : ({ w3 with drawn := w3.drawn + 1 } : World) = w4 at *
  have hB4 : Below w1.heap.size w1 w4 := by rw [← hwd]; exact HB3.out.trans ⟨rfl, rfl, rfl, Nat.le_refl _, fun _ _ => rfl⟩
  have HS4 := Lib.hid (SStp.made H.out HS1.out hB4)
  have hc4 := sfirst_any s n w4 HS4.out.sin.cell0
  rw [HFN.out] at hc4
  have hk4 := run_convert_bytes_arg (P := Tryz.prog) w4 154 5 Tryz.underlying154 Tryz.underlying5 g 0 256 cp ((List.range 256).map fun j => ((byteN (flipB x i) j : Nat) : Int)) (by simp) (fun j hj => by rw [← hwd]; exact HCELL.out j hj) 9 Tryz.underlying9
  rw [strOf_bytes (by rw [flipB_size, hx])] at hk4
  have hst := store_sp HS4.out.sin HPG.out (flipB x i) (by rw [flipB_size, hx])
  rw [HFN.out] at hst
  have HST := Lib.hid hst
  clear hst hwd hB4 HCELL HB3 HB2
  simp only [List.take_succ_cons, List.take_zero, List.drop_succ_cons, List.drop_zero]
  repeat still_step
  still_call (hc4.mono fun _ _ ⟨a, b⟩ => ⟨a, b.symm⟩)
  repeat still_step
  refine wpStill_nil ?_
  go_wp2_with fail
  refine HST.out.mono ?_
  rintro e w5 ⟨rfl, hS5⟩
  have HS5 := Lib.hid hS5
  clear hS5 HST
  go_wp2
  go_ret
  refine ⟨rfl, ?_⟩
  have h5 := SStp.trans H.out HS4.out HS5.out
  rw [HFN.out]
  exact h5

set_option maxHeartbeats 1000000 in
set_option maxRecDepth 100000 in
theorem taken_sp (h : SIn w0 w s d F n V D N) (i : Int) (hN : N < 2305843009213693952) :
    Calls Tryz.prog 53 #[.pointer (some ⟨s, 0, none⟩), .int .i64 i] w fun e w' => ∃ v, e = .returned v ∧ ErrV w' v (spTaken n V i) ∧ SStp w0 w w' s d F n V D (N + 2) := by
  have hbd := h.bd
  have hF := jFirst_bd n
  have hP := jPages_bd n
  have hpg : isPage n (jFirst n) = true := page_in (by omega) (by have := pages_many hbd.1 hbd.2; omega)
  have hc := h.cell0
  have hC := sfirst_any s n w hc
  have hL := slast_any s n w hc
  have H := Lib.hid h
  have HPG := Lib.hid hpg
  have HX := Lib.hid (h.size hpg)
  by_cases h1 : i ≤ jFirst n
  · have e1 : spTaken n V i = 1 := by unfold spTaken; rw [if_pos (.inl h1)]
    rw [e1]
    clear h hc hL e1 hpg
    generalize jFirst n = f at *
    go_enter Tryz.func53, Tryz.ntmps53
    go_wp2_with (go_at_call 57; refine hC.mono ?_; rintro e w' ⟨rfl, rfl⟩)
    refine (fault_any _ _ _).mono ?_
    rintro e w1 ⟨v, rfl, hE, hB⟩
    have HE := Lib.hid hE
    have HB := Lib.hid hB
    clear hE hB
    go_wp2
    go_ret
    exact ⟨_, rfl, HE.out, (SStp.made H.out H.out.refl HB.out).mono (by omega)⟩
  · by_cases h2 : jFirst n + jPages n - 2 < i
    · have e1 : spTaken n V i = 1 := by unfold spTaken; rw [if_pos (.inr h2)]
      rw [e1]
      have h1' : jFirst n < i := by omega
      clear h hc e1 hpg h1
      generalize jFirst n = f at *
      generalize jPages n = pg at *
      go_enter Tryz.func53, Tryz.ntmps53
      go_wp2_with (first
        | (go_at_call 57; refine hC.mono ?_; rintro e w' ⟨rfl, rfl⟩)
        | (go_at_call 58; refine hL.mono ?_; rintro e w' ⟨rfl, k, rfl⟩))
      refine (fault_any _ _ _).mono ?_
      rintro e w1 ⟨v, rfl, hE, hB⟩
      have HE := Lib.hid hE
      have HB := Lib.hid hB
      clear hE hB
      go_wp2
      go_ret
      exact ⟨_, rfl, HE.out, (SStp.after H.out (drewN_below w _) (SStp.made (H.out.drewN k) (H.out.drewN k).refl HB.out)).mono (by omega)⟩
    · have h1' : jFirst n < i := by omega
      have h2' : i ≤ jFirst n + jPages n - 2 := by omega
      obtain ⟨j, hj⟩ : ∃ j : Nat, i = jFirst n + j := ⟨(i - jFirst n).toNat, by omega⟩
      have hj' : (i - jFirst n).toNat = j := by omega
      have hjb : j < 2048 := by omega
      have e1 : spTaken n V i = if bitB (V (jFirst n)) j then 0 else 8 := by unfold spTaken; rw [if_neg (by omega), hj']
      rw [e1]
      have HLD : Hid (∀ k, Calls Tryz.prog 55 #[.pointer (some ⟨s, 0, none⟩), .int .i64 (jFirst n)] (w.drewN k) fun e w' => e = .returned (.tuple #[.string (V (jFirst n)), .nilIface]) ∧ SStp w0 (w.drewN k) w' s d F n V D (N + 2)) :=
        fun k => load_sp (H.out.drewN k) hpg hN
      have hB : ∀ w', w'.cell? ⟨s, 0, none⟩ = some (.int .i64 n) → Calls Tryz.prog 59 #[.pointer (some ⟨s, 0, none⟩), .string (V (jFirst n)), .int .i64 i] w' fun e w'' => e = .returned (.bool (bitB (V (jFirst n)) j)) ∧ w' = w'' :=
        fun w' hc' => sbit_any s n w' hc' _ HX.out j hjb i hj
      have HB := Lib.hid hB
      have hC2 : ∀ k, Calls Tryz.prog 57 #[.pointer (some ⟨s, 0, none⟩)] (w.drewN k) fun e w' => e = .returned (.int .i64 (jFirst n)) ∧ w.drewN k = w' := fun k => sfirst_any s n _ hc
      clear h hc e1 hpg h1 h2 hB hj hj' HX
      generalize V (jFirst n) = x at *
      generalize jFirst n = f at *
      generalize jPages n = pg at *
      generalize bitB x j = b at *
      go_enter Tryz.func53, Tryz.ntmps53
      go_wp2_with (first
        | (go_at_call 57; refine hC.mono ?_; rintro e w' ⟨rfl, rfl⟩)
        | (go_at_call 58; refine hL.mono ?_; rintro e w' ⟨rfl, k, rfl⟩)
        | (go_at_call 57; refine (hC2 _).mono ?_; rintro e w' ⟨rfl, rfl⟩))
      refine (HLD.out _).mono ?_
      rintro e w1 ⟨rfl, hS⟩
      have hb := HB.out w1 hS.sin.cell0
      have HS := Lib.hid hS
      clear hS HLD HB
      cases b with
      | true =>
        go_wp2_with (go_at_call 59; refine hb.mono ?_; rintro e w' ⟨rfl, rfl⟩)
        go_ret
        exact ⟨_, rfl, .inl ⟨rfl, rfl⟩, SStp.after H.out (drewN_below w _) HS.out⟩
      | false =>
        go_wp2_with (go_at_call 59; refine hb.mono ?_; rintro e w' ⟨rfl, rfl⟩)
        refine (fault_any _ _ _).mono ?_
        rintro e w2 ⟨v, rfl, hE, hB2⟩
        have HE := Lib.hid hE
        have HB2 := Lib.hid hB2
        clear hE hB2
        go_wp2
        go_ret
        exact ⟨_, rfl, HE.out, SStp.after H.out (drewN_below w _) (SStp.made (H.out.drewN _) HS.out HB2.out)⟩
end
end
/-! Sp3 -/
section
set_option linter.unusedSimpArgs false
set_option linter.unusedVariables false
open Go.RowKit Go.Maps Go.Shelf

theorem next_some {n : Int} {x : ByteArray} {k : Nat} (hk : k < spMany n) (ha : ∀ j, j < k → bitB x (j + 1) = true) (hb : bitB x (k + 1) = false) : spNext n x = some k := by
  unfold spNext
  rw [List.find?_range_eq_some]
  exact ⟨by simp [hb], List.mem_range.2 hk, fun j hj => by simp [ha j hj]⟩
theorem next_none {n : Int} {x : ByteArray} (ha : ∀ j, j < spMany n → bitB x (j + 1) = true) : spNext n x = none := by
  unfold spNext
  rw [List.find?_range_eq_none]
  exact fun j hj => by simp [ha j hj]
theorem next_facts {n : Int} {x : ByteArray} {k : Nat} (h : spNext n x = some k) : k < spMany n ∧ bitB x (k + 1) = false := by
  unfold spNext at h
  rw [List.find?_range_eq_some] at h
  exact ⟨List.mem_range.1 h.2.1, by simpa using h.1⟩
/-- what 'next' answers -/
def NextIs (n : Int) (x : ByteArray) (r : Int) (v : Value) (w : World) : Prop :=
  match spNext n x with
  | none => r = 0 ∧ ErrV w v 16
  | some j => r = jFirst n + 1 + j ∧ v = .nilIface

section
variable {w0 w : World} {s d : Nat} {F : Nat → Prop} {n N : Int} {V D : Int → ByteArray}
theorem SIn.first (h : SIn w0 w s d F n V D N) : isPage n (jFirst n) = true := by
  have hbd := h.bd
  have := pages_many hbd.1 hbd.2
  exact page_in (by omega) (by omega)

set_option maxHeartbeats 1000000 in
set_option maxRecDepth 100000 in
theorem next_sp (h : SIn w0 w s d F n V D N) (hN : N < 2305843009213693952) :
    Calls Tryz.prog 114 #[.pointer (some ⟨s, 0, none⟩)] w fun e w' => ∃ r v, e = .returned (.tuple #[.int .i64 r, v]) ∧ NextIs n (V (jFirst n)) r v w' ∧ SStp w0 w w' s d F n V D (N + 2) := by
  have hbd := h.bd
  have hF := jFirst_bd n
  obtain ⟨m1, m2, m3⟩ := spMany_bd hbd.1 hbd.2
  have hc := h.cell0
  have hC := sfirst_any s n w hc
  have hpg := h.first
  have HX := Lib.hid (h.size hpg)
  have H := Lib.hid h
  have hL := load_sp h hpg hN
  have HL := Lib.hid hL
  have HSF : Hid (∀ w' : World, w'.cell? ⟨s, 0, none⟩ = some (.int .i64 n) → Calls Tryz.prog 57 #[.pointer (some ⟨s, 0, none⟩)] w' fun e w'' => e = .returned (.int .i64 (jFirst n)) ∧ w' = w'') := fun w' => sfirst_any s n w'
  have HSL : Hid (∀ w' : World, w'.cell? ⟨s, 0, none⟩ = some (.int .i64 n) → Calls Tryz.prog 58 #[.pointer (some ⟨s, 0, none⟩)] w' fun e w'' => e = .returned (.int .i64 (jFirst n + spMany n)) ∧ ∃ k, w'' = w'.drewN k) := fun w' hc' => by
    rw [show jFirst n + (spMany n : Int) = jFirst n + jPages n - 2 by omega]; exact slast_any s n w' hc'
  have HSB : Hid (∀ (w' : World) (j : Nat), w'.cell? ⟨s, 0, none⟩ = some (.int .i64 n) → j < 2047 → Calls Tryz.prog 59 #[.pointer (some ⟨s, 0, none⟩), .string (V (jFirst n)), .int .i64 (jFirst n + 1 + j)] w' fun e w'' => e = .returned (.bool (bitB (V (jFirst n)) (j + 1))) ∧ w' = w'') := fun w' j hc' hj =>
    sbit_any s n w' hc' _ HX.out (j + 1) (by omega) _ (by omega)
  clear h hL hpg hc m3 HX
  have HNX : Hid (∀ k, k < spMany n → (∀ j, j < k → bitB (V (jFirst n)) (j + 1) = true) → bitB (V (jFirst n)) (k + 1) = false → ∀ w', NextIs n (V (jFirst n)) (jFirst n + 1 + k) .nilIface w') := fun k h1 h2 h3 w' => by
    unfold NextIs; rw [next_some h1 h2 h3]; exact ⟨rfl, rfl⟩
  have HNN : Hid ((∀ j, j < spMany n → bitB (V (jFirst n)) (j + 1) = true) → ∀ v w', ErrV w' v 16 → NextIs n (V (jFirst n)) 0 v w') := fun h1 v w' h2 => by
    unfold NextIs; rw [next_none h1]; exact ⟨rfl, h2⟩
  generalize spMany n = m at *
  generalize V (jFirst n) = x at *
  generalize jFirst n = f at *
  go_enter Tryz.func114, Tryz.ntmps114
  go_wp2_with (go_at_call 57; refine hC.mono ?_; rintro e w' ⟨rfl, rfl⟩)
  refine HL.out.mono ?_
  rintro e w1 ⟨rfl, hS⟩
  have HS := Lib.hid hS
  have hC1 := HSF.out w1 hS.sin.cell0
  clear hS HL hC
  go_wp2_with (go_at_call 57; refine hC1.mono ?_; rintro e w' ⟨rfl, rfl⟩)
  go_loopw [6] (fun i wr => ∃ k : Nat, i = .int .i64 (f + 1 + k) ∧ k ≤ m ∧ Hid (∀ j, j < k → bitB x (j + 1) = true) ∧ Hid (SStp w0 w wr s d F n V D (N + 2))) (fun i _ => (f + 1 + m - intOf i).toNat)
  case atStart => exact ⟨0, by simp, by omega, Lib.hid (fun j hj => by omega), HS⟩
  case round =>
    obtain ⟨k, rfl, hk, HK, HSk⟩ := hrel
    have hl := HSL.out wr HSk.out.sin.cell0
    by_cases hlt : k < m
    · have hb : ∀ q, Calls Tryz.prog 59 #[.pointer (some ⟨s, 0, none⟩), .string x, .int .i64 (f + 1 + k)] (wr.drewN q) fun e w'' => e = .returned (.bool (bitB x (k + 1))) ∧ wr.drewN q = w'' :=
        fun q => HSB.out (wr.drewN q) k HSk.out.sin.cell0 (by omega)
      have HD : Hid (∀ q, SStp w0 w (wr.drewN q) s d F n V D (N + 2)) := fun q => SStp.made H.out HSk.out (drewN_below wr q)
      cases hbit : bitB x (k + 1) with
      | true =>
        rw [hbit] at hb
        have HK2 : Hid (∀ j, j < k + 1 → bitB x (j + 1) = true) := fun j hj => by
          by_cases e : j = k
          · subst e; exact hbit
          · exact HK.out j (by omega)
        clear hbit HK HSk
        go_wp2_with (first
          | (go_at_call 58; refine hl.mono ?_; rintro e w' ⟨rfl, q, rfl⟩)
          | (go_at_call 59; refine (hb _).mono ?_; rintro e w' ⟨rfl, rfl⟩))
        go_roundw
        case rel => exact ⟨k + 1, by congr 1; push_cast; omega, by omega, HK2, HD.out _⟩
        case measure => simp [intOf]; omega
      | false =>
        rw [hbit] at hb
        have HR := Lib.hid (HNX.out k hlt HK.out hbit)
        clear hbit HK HSk
        go_wp2_with (first
          | (go_at_call 58; refine hl.mono ?_; rintro e w' ⟨rfl, q, rfl⟩)
          | (go_at_call 59; refine (hb _).mono ?_; rintro e w' ⟨rfl, rfl⟩))
        go_ret2
        exact ⟨_, _, rfl, HR.out _, HD.out _⟩
    · obtain rfl : k = m := by omega
      have HD : Hid (∀ q, SStp w0 w (wr.drewN q) s d F n V D (N + 2)) := fun q => SStp.made H.out HSk.out (drewN_below wr q)
      have hc2 : ∀ q, Calls Tryz.prog 57 #[.pointer (some ⟨s, 0, none⟩)] (wr.drewN q) fun e w' => e = .returned (.int .i64 f) ∧ wr.drewN q = w' := fun q => HSF.out _ HSk.out.sin.cell0
      have HNK := Lib.hid (HNN.out HK.out)
      clear HK HSk
      go_wp2_with (first
        | (go_at_call 58; refine hl.mono ?_; rintro e w' ⟨rfl, q, rfl⟩)
        | (go_at_call 57; refine (hc2 _).mono ?_; rintro e w' ⟨rfl, rfl⟩))
      refine (fault_any _ _ _).mono ?_
      rintro e w2 ⟨v, rfl, hE, hB⟩
      have HE := Lib.hid hE
      have HB := Lib.hid hB
      clear hE hB
      go_wp2
      go_ret2
      exact ⟨_, _, rfl, HNK.out _ _ HE.out, SStp.made H.out (HD.out _) HB.out⟩

/-! ### the calls -/
theorem taken_in {i : Int} (h : SIn w0 w s d F n V D N) (h0 : spTaken n V i = 0) : isPage n i = true ∧ ∃ j : Nat, j < spMany n ∧ i = jFirst n + 1 + j ∧ bitB (V (jFirst n)) (j + 1) = true := by
  have hbd := h.bd
  obtain ⟨m1, m2, m3⟩ := spMany_bd hbd.1 hbd.2
  unfold spTaken at h0
  split at h0
  · cases h0
  · rename_i hr
    split at h0
    · rename_i hb
      refine ⟨page_in (by omega) (by omega), (i - jFirst n - 1).toNat, by omega, by omega, ?_⟩
      rw [show (i - jFirst n - 1).toNat + 1 = (i - jFirst n).toNat by omega]; exact hb
    · cases h0

set_option maxHeartbeats 1000000 in
set_option maxRecDepth 100000 in
theorem get_sp (h : SIn w0 w s d F n V D N) (i : Int) (hN : N < 2305843009213693000) :
    Calls Tryz.prog 20 #[.pointer (some ⟨s, 0, none⟩), .int .i64 i] w fun e w' =>
      e = .returned (.tuple #[.string (if spTaken n V i = 0 then V i else ⟨#[]⟩), .int .i64 (spTaken n V i)]) ∧ SStp w0 w w' s d F n V D (N + 4) := by
  have H := Lib.hid h
  have HT := Lib.hid (taken_sp h i (by omega))
  by_cases h0 : spTaken n V i = 0
  · have HP := Lib.hid (taken_in h h0).1
    rw [h0] at HT ⊢
    rw [if_pos rfl]
    obtain ⟨x, HXE⟩ : ∃ x, Hid (V i = x) := ⟨_, Lib.hid rfl⟩
    rw [HXE.out]
    clear h h0
    go_enter Tryz.func20, Tryz.ntmps20
    go_wp2_with fail
    refine HT.out.mono ?_
    rintro e w1 ⟨v, rfl, hE, hS⟩
    obtain rfl : v = .nilIface := by rcases hE with ⟨_, h⟩ | ⟨h, _⟩; exact h; exact absurd rfl h
    have HS := Lib.hid hS
    have hl := load_sp hS.sin HP.out (by omega)
    rw [HXE.out] at hl
    have HL := Lib.hid hl
    clear hE hS HT hl
    go_wp2_with fail
    refine HL.out.mono ?_
    rintro e w2 ⟨rfl, hS2⟩
    have HS2 := Lib.hid hS2
    have HNm := Lib.hid (number_any .nilIface 0 w2 (.inl ⟨rfl, rfl⟩) hS2.sin.globW)
    clear hS2 HL
    go_wp2_with fail
    refine HNm.out.mono ?_
    rintro e w3 ⟨rfl, hB⟩
    have HB := Lib.hid hB
    clear hB HNm
    go_wp2
    go_ret2
    exact ⟨rfl, (SStp.made H.out (SStp.trans H.out HS.out HS2.out) HB.out).mono (by omega)⟩
  · rw [if_neg h0]
    have HK := Lib.hid h0
    generalize spTaken n V i = k at *
    clear h h0
    go_enter Tryz.func20, Tryz.ntmps20
    go_wp2_with fail
    refine HT.out.mono ?_
    rintro e w1 ⟨v, rfl, hE, hS⟩
    have HS := Lib.hid hS
    have HNm := Lib.hid (number_any v k w1 hE hS.sin.globW)
    obtain ⟨fb, rfl⟩ : ∃ fb : Nat, v = .iface 197 (.pointer (some ⟨fb, 0, none⟩)) := by
      rcases hE with ⟨h, _⟩ | ⟨_, fb, pg, h, _⟩
      · exact absurd h HK.out
      · exact ⟨fb, h⟩
    clear hE hS HT
    go_wp2_with fail
    refine HNm.out.mono ?_
    rintro e w3 ⟨rfl, hB⟩
    have HB := Lib.hid hB
    clear hB HNm
    go_wp2
    go_ret2
    exact ⟨rfl, (SStp.made H.out HS.out HB.out).mono (by omega)⟩

/-- what Put answers -/
def spPut (n : Int) (V : Int → ByteArray) (i : Int) (x : ByteArray) : Int := if spTaken n V i ≠ 0 then spTaken n V i else if x.size ≠ 256 then 3 else 0
set_option maxHeartbeats 1000000 in
set_option maxRecDepth 100000 in
theorem put_sp (h : SIn w0 w s d F n V D N) (i : Int) (x : ByteArray) (hx : x.size ≤ 140737488355328) (hN : N < 2305843009213693000) :
    Calls Tryz.prog 71 #[.pointer (some ⟨s, 0, none⟩), .int .i64 i, .string x] w fun e w' =>
      e = .returned (.int .i64 (spPut n V i x)) ∧ SStp w0 w w' s d F n (if spPut n V i x = 0 then upd V i x else V) D (N + 4) := by
  have H := Lib.hid h
  have HT := Lib.hid (taken_sp h i (by omega))
  by_cases h0 : spTaken n V i = 0
  · have HP := Lib.hid (taken_in h h0).1
    by_cases hsz : x.size = 256
    · have e1 : spPut n V i x = 0 := by unfold spPut; rw [if_neg (by omega), if_neg (by omega)]
      rw [h0] at HT
      rw [e1, if_pos rfl]
      have HSZ := Lib.hid hsz
      clear h h0 e1 hsz hx
      go_enter Tryz.func71, Tryz.ntmps71
      go_wp2_with fail
      refine HT.out.mono ?_
      rintro e w1 ⟨v, rfl, hE, hS⟩
      obtain rfl : v = .nilIface := by rcases hE with ⟨_, h⟩ | ⟨h, _⟩; exact h; exact absurd rfl h
      have HS := Lib.hid hS
      have HL := Lib.hid (store_sp hS.sin HP.out x HSZ.out)
      clear hE hS HT
      go_wp2_with fail
      refine HL.out.mono ?_
      rintro e w2 ⟨rfl, hS2⟩
      have HS2 := Lib.hid hS2
      have HNm := Lib.hid (number_any .nilIface 0 w2 (.inl ⟨rfl, rfl⟩) hS2.sin.globW)
      clear hS2 HL
      go_wp2_with fail
      refine HNm.out.mono ?_
      rintro e w3 ⟨rfl, hB⟩
      have HB := Lib.hid hB
      clear hB HNm
      go_wp2
      go_ret
      exact ⟨rfl, (SStp.made H.out (SStp.trans H.out HS.out HS2.out) HB.out).mono (by omega)⟩
    · have e1 : spPut n V i x = 3 := by unfold spPut; rw [if_neg (by omega), if_pos hsz]
      rw [h0] at HT
      rw [e1, if_neg (by omega)]
      have HSZ := Lib.hid hsz
      have HX := Lib.hid hx
      clear h h0 e1 hsz hx
      go_enter Tryz.func71, Tryz.ntmps71
      go_wp2_with fail
      refine HT.out.mono ?_
      rintro e w1 ⟨v, rfl, hE, hS⟩
      obtain rfl : v = .nilIface := by rcases hE with ⟨_, h⟩ | ⟨h, _⟩; exact h; exact absurd rfl h
      have HS := Lib.hid hS
      have HL := Lib.hid (store_form hS.sin HP.out x HSZ.out HX.out)
      clear hE hS HT
      go_wp2_with fail
      refine HL.out.mono ?_
      rintro e w2 ⟨v, rfl, hE, hS2⟩
      have HS2 := Lib.hid hS2
      have HNm := Lib.hid (number_any v 3 w2 hE hS2.sin.globW)
      clear hS2 HL hE
      go_wp2_with fail
      refine HNm.out.mono ?_
      rintro e w3 ⟨rfl, hB⟩
      have HB := Lib.hid hB
      clear hB HNm
      go_wp2
      go_ret
      exact ⟨rfl, (SStp.made H.out (SStp.trans H.out HS.out HS2.out) HB.out).mono (by omega)⟩
  · have e1 : spPut n V i x = spTaken n V i := by unfold spPut; rw [if_pos h0]
    rw [e1, if_neg h0]
    have HK := Lib.hid h0
    generalize spTaken n V i = k at *
    clear h h0 e1
    go_enter Tryz.func71, Tryz.ntmps71
    go_wp2_with fail
    refine HT.out.mono ?_
    rintro e w1 ⟨v, rfl, hE, hS⟩
    have HS := Lib.hid hS
    have HNm := Lib.hid (number_any v k w1 hE hS.sin.globW)
    obtain ⟨fb, rfl⟩ : ∃ fb : Nat, v = .iface 197 (.pointer (some ⟨fb, 0, none⟩)) := by
      rcases hE with ⟨h, _⟩ | ⟨_, fb, pg, h, _⟩
      · exact absurd h HK.out
      · exact ⟨fb, h⟩
    clear hE hS HT
    go_wp2_with fail
    refine HNm.out.mono ?_
    rintro e w3 ⟨rfl, hB⟩
    have HB := Lib.hid hB
    clear hB HNm
    go_wp2
    go_ret
    exact ⟨rfl, (SStp.made H.out HS.out HB.out).mono (by omega)⟩

set_option maxHeartbeats 1000000 in
set_option maxRecDepth 100000 in
theorem release_sp (h : SIn w0 w s d F n V D N) (i : Int) (hN : N < 2305843009213693000) :
    Calls Tryz.prog 45 #[.pointer (some ⟨s, 0, none⟩), .int .i64 i] w fun e w' =>
      e = .returned (.int .i64 (spTaken n V i)) ∧ SStp w0 w w' s d F n (if spTaken n V i = 0 then upd V (jFirst n) (flipB (V (jFirst n)) (i - jFirst n).toNat) else V) D (N + 4) := by
  have H := Lib.hid h
  have HT := Lib.hid (taken_sp h i (by omega))
  by_cases h0 : spTaken n V i = 0
  · obtain ⟨hp, j, hj1, hj2, hj3⟩ := taken_in h h0
    have hbd := h.bd
    obtain ⟨m1, m2, m3⟩ := spMany_bd hbd.1 hbd.2
    have HJ : Hid ((i - jFirst n).toNat < 2048 ∧ i = jFirst n + ((i - jFirst n).toNat : Nat)) := ⟨by omega, by omega⟩
    rw [h0] at HT ⊢
    rw [if_pos rfl]
    clear h h0 hp hj1 hj2 hj3 m1 m2 m3
    go_enter Tryz.func45, Tryz.ntmps45
    go_wp2_with fail
    refine HT.out.mono ?_
    rintro e w1 ⟨v, rfl, hE, hS⟩
    obtain rfl : v = .nilIface := by rcases hE with ⟨_, h⟩ | ⟨h, _⟩; exact h; exact absurd rfl h
    have HS := Lib.hid hS
    have HL := Lib.hid (turn_sp hS.sin _ HJ.out.1 i HJ.out.2 (by omega))
    clear hE hS HT
    go_wp2_with fail
    refine HL.out.mono ?_
    rintro e w2 ⟨rfl, hS2⟩
    have HS2 := Lib.hid hS2
    have HNm := Lib.hid (number_any .nilIface 0 w2 (.inl ⟨rfl, rfl⟩) hS2.sin.globW)
    clear hS2 HL
    go_wp2_with fail
    refine HNm.out.mono ?_
    rintro e w3 ⟨rfl, hB⟩
    have HB := Lib.hid hB
    clear hB HNm
    go_wp2
    go_ret
    exact ⟨rfl, (SStp.made H.out (SStp.trans H.out HS.out HS2.out) HB.out).mono (by omega)⟩
  · rw [if_neg h0]
    have HK := Lib.hid h0
    generalize spTaken n V i = k at *
    clear h h0
    go_enter Tryz.func45, Tryz.ntmps45
    go_wp2_with fail
    refine HT.out.mono ?_
    rintro e w1 ⟨v, rfl, hE, hS⟩
    have HS := Lib.hid hS
    have HNm := Lib.hid (number_any v k w1 hE hS.sin.globW)
    obtain ⟨fb, rfl⟩ : ∃ fb : Nat, v = .iface 197 (.pointer (some ⟨fb, 0, none⟩)) := by
      rcases hE with ⟨h, _⟩ | ⟨_, fb, pg, h, _⟩
      · exact absurd h HK.out
      · exact ⟨fb, h⟩
    clear hE hS HT
    go_wp2_with fail
    refine HNm.out.mono ?_
    rintro e w3 ⟨rfl, hB⟩
    have HB := Lib.hid hB
    clear hB HNm
    go_wp2
    go_ret
    exact ⟨rfl, (SStp.made H.out HS.out HB.out).mono (by omega)⟩

/-- a page of bytes 0 -/
def zeroPg : ByteArray := padB ⟨#[]⟩ 256
theorem zeroPg_size : zeroPg.size = 256 := padB_size (by decide)
/-- behind Alloc -/
def spGot (n : Int) (V : Int → ByteArray) (j : Nat) : Int → ByteArray := upd (upd V (jFirst n) (flipB (V (jFirst n)) (j + 1))) (jFirst n + 1 + j) zeroPg
set_option maxHeartbeats 1000000 in
set_option maxRecDepth 100000 in
theorem alloc_none (h : SIn w0 w s d F n V D N) (hn : spNext n (V (jFirst n)) = none) (hN : N < 2305843009213693000) :
    Calls Tryz.prog 69 #[.pointer (some ⟨s, 0, none⟩)] w fun e w' => e = .returned (.tuple #[.int .i64 0, .int .i64 16]) ∧ SStp w0 w w' s d F n V D (N + 2) := by
  have H := Lib.hid h
  have HT := Lib.hid (next_sp h (by omega))
  have HN := Lib.hid hn
  clear h hn
  go_enter Tryz.func69, Tryz.ntmps69
  go_wp2_with fail
  refine HT.out.mono ?_
  rintro e w1 ⟨r, v, rfl, hX, hS⟩
  have HS := Lib.hid hS
  obtain ⟨rfl, hE⟩ : r = 0 ∧ ErrV w1 v 16 := by unfold NextIs at hX; rw [HN.out] at hX; exact hX
  obtain ⟨fb, pg, rfl, hb⟩ : ∃ (fb : Nat) (pg : Int), v = .iface 197 (.pointer (some ⟨fb, 0, none⟩)) ∧ w1.heap[fb]? = some (.cells #[.int .i64 pg, .iface 26 (.int .i64 16)] 199 (0, 0)) := by
    rcases hE with ⟨h, _⟩ | ⟨_, h⟩
    · cases h
    · exact h
  have HI := Lib.hid (is_fault fb 16 w1 (by rw [cell_of hb]; rfl))
  clear hX hE hS HT hb
  go_wp2_with fail
  refine HI.out.mono ?_
  rintro e w2 ⟨rfl, rfl⟩
  clear HI
  go_wp2
  go_ret2
  exact ⟨rfl, HS.out⟩
set_option maxHeartbeats 1000000 in
set_option maxRecDepth 100000 in
theorem alloc_some (h : SIn w0 w s d F n V D N) {j : Nat} (hn : spNext n (V (jFirst n)) = some j) (hN : N < 2305843009213693000) :
    Calls Tryz.prog 69 #[.pointer (some ⟨s, 0, none⟩)] w fun e w' => e = .returned (.tuple #[.int .i64 (jFirst n + 1 + j), .int .i64 0]) ∧ SStp w0 w w' s d F n (spGot n V j) D (N + 4) := by
  have H := Lib.hid h
  have HT := Lib.hid (next_sp h (by omega))
  have HN := Lib.hid hn
  have hbd := h.bd
  obtain ⟨m1, m2, m3⟩ := spMany_bd hbd.1 hbd.2
  have hjm := (next_facts hn).1
  have HPG : Hid (isPage n (jFirst n + 1 + j) = true) := page_in (by omega) (by omega)
  have HJ : Hid (j + 1 < 2048) := by show _ < _; omega
  clear h hn m1 m2 m3 hjm
  go_enter Tryz.func69, Tryz.ntmps69
  go_wp2_with fail
  refine HT.out.mono ?_
  rintro e w1 ⟨r, v, rfl, hX, hS⟩
  have HS := Lib.hid hS
  obtain ⟨rfl, rfl⟩ : r = jFirst n + 1 + j ∧ v = .nilIface := by unfold NextIs at hX; rw [HN.out] at hX; exact hX
  have HI := Lib.hid (is_nil 16 w1)
  have HL := Lib.hid (turn_sp hS.sin (j + 1) HJ.out (jFirst n + 1 + j) (by push_cast; omega) (by omega))
  clear hX hS HT
  go_wp2_with fail
  refine HI.out.mono ?_
  rintro e w2 ⟨rfl, rfl⟩
  clear HI
  go_wp2_with fail
  refine HL.out.mono ?_
  rintro e w2 ⟨rfl, hS2⟩
  have HS2 := Lib.hid hS2
  have HPd := Lib.hid (pad_any ⟨#[]⟩ 256 w2 (by decide) (by omega))
  clear hS2 HL
  go_wp2_with fail
  refine HPd.out.mono ?_
  rintro e w3 ⟨rfl, hB⟩
  have HS3 := Lib.hid (SStp.made HS.out.sin HS2.out hB)
  have hst := store_sp HS3.out.sin HPG.out zeroPg zeroPg_size
  have HST := Lib.hid hst
  have hz : Hid (padB ⟨#[]⟩ 256 = zeroPg) := rfl
  rw [hz.out]
  clear hst hB HPd hz
  generalize hzp : zeroPg = zp at *
  go_wp2_with fail
  refine HST.out.mono ?_
  rintro e w4 ⟨rfl, hS4⟩
  have HS4 := Lib.hid hS4
  clear hS4 HST
  have HZP := Lib.hid hzp
  clear hzp
  go_wp2
  go_ret2
  refine ⟨rfl, ?_⟩
  have h5 := SStp.trans H.out HS.out (SStp.trans HS.out.sin HS3.out HS4.out)
  unfold spGot
  rw [HZP.out]
  exact h5.mono (by omega)
end
end
/-! One -/
section
set_option linter.unusedSimpArgs false
set_option linter.unusedVariables false
open Go.RowKit Go.Maps Go.Shelf

theorem info_int : (Tryz.prog.info? 3).map (fun i => (i.zero, i.size, i.bytes)) = some (some (.int .i64 0), 1, 8) := by kernel_rfl
theorem one_append (te sl : TypeId) (z : Value) (by_ : Nat) (hinfo : (Tryz.prog.info? te).map (fun i => (i.zero, i.size, i.bytes)) = some (some z, 1, by_)) (hu : Tryz.prog.underlying sl = some (.slice te)) (hz : z.cells.size = 1) (hby : by_ ≤ 24)
    (w : World) (base : Nat) (v : Value) (n : Nat) (xs : List Value) (u : Value) (h1 : u.oneCell' = true) (hown : w.ownsRow base te 1 v n xs) (hlen : n < 1000000000000) (hb : base ≤ w.heap.size) :
    ∃ ao co w3, (Builtin.append_ #[sl, sl] sl #[v, .slice (some ⟨w.heap.size, 0, none⟩) 1 1]).run Tryz.prog (w.alloc (.cells #[u] te)) = .ok (.slice ao (n + 1) co) w3 ∧
      w3.ownsRow base te 1 (.slice ao (n + 1) co) (n + 1) (xs ++ [u]) ∧ (∀ w0 B, Below B w0 w → w0.heap.size ≤ base → B ≤ base → Below B w0 w3) := by
  obtain ⟨i0, hi, hz0, hz1, hz2⟩ := info_parts hinfo
  obtain ⟨v3, w3, hr, hown3, hgr, _⟩ := run_append_own (P := Tryz.prog) (w.alloc (.cells #[u] te)) base sl sl te i0 z 1 by_ hu hi hz0 hz1 hz2 hz (by omega)
    v n xs (hown.alloc _) ⟨w.heap.size, 0, none⟩ 1 1 [u] rfl (by
      intro k x hk
      have hadd : Addr.add ⟨w.heap.size, 0, none⟩ k = ⟨w.heap.size, k, none⟩ := by unfold Addr.add; split <;> simp_all
      rw [hadd, cell_new]
      simpa using hk) (by simpa using h1) (by unfold maxLen; omega) (by
        calc (n + 1) * by_ ≤ (n + 1) * 24 := Nat.mul_le_mul_left _ hby
          _ ≤ 140737488355328 := by omega) (by simp; omega)
  obtain ⟨ao, co, rfl⟩ := ownsRow_slice hown3
  refine ⟨ao, co, w3, hr, hown3, fun w0 B hB hw0 hBb => ?_⟩
  have hs := hB.size
  refine (hB.trans (((Below.refl _ w).alloc (Nat.le_refl _) _).mono ?_)).grown hgr (by simp; omega) (fun k hk => Nat.le_trans hBb (hown.lt k hk).1)
  omega
/-- the same, with what else is as it was -/
theorem one_append_at (te sl : TypeId) (z : Value) (by_ : Nat) (hinfo : (Tryz.prog.info? te).map (fun i => (i.zero, i.size, i.bytes)) = some (some z, 1, by_)) (hu : Tryz.prog.underlying sl = some (.slice te)) (hz : z.cells.size = 1) (hby : by_ ≤ 24)
    (w : World) (base : Nat) (v : Value) (n : Nat) (xs : List Value) (u : Value) (h1 : u.oneCell' = true) (hown : w.ownsRow base te 1 v n xs) (hlen : n < 1000000000000) (hb : base ≤ w.heap.size) :
    ∃ ao co w3, (Builtin.append_ #[sl, sl] sl #[v, .slice (some ⟨w.heap.size, 0, none⟩) 1 1]).run Tryz.prog (w.alloc (.cells #[u] te)) = .ok (.slice ao (n + 1) co) w3 ∧
      w3.ownsRow base te 1 (.slice ao (n + 1) co) (n + 1) (xs ++ [u]) ∧ (∀ w0 B, Below B w0 w → w0.heap.size ≤ base → B ≤ base → Below B w0 w3) ∧ (∀ b, b < w.heap.size → v.ownBlock ≠ some b → w3.heap[b]? = w.heap[b]?) ∧ w.heap.size ≤ w3.heap.size := by
  obtain ⟨i0, hi, hz0, hz1, hz2⟩ := info_parts hinfo
  obtain ⟨v3, w3, hr, hown3, hgr, _⟩ := run_append_own (P := Tryz.prog) (w.alloc (.cells #[u] te)) base sl sl te i0 z 1 by_ hu hi hz0 hz1 hz2 hz (by omega)
    v n xs (hown.alloc _) ⟨w.heap.size, 0, none⟩ 1 1 [u] rfl (by
      intro k x hk
      have hadd : Addr.add ⟨w.heap.size, 0, none⟩ k = ⟨w.heap.size, k, none⟩ := by unfold Addr.add; split <;> simp_all
      rw [hadd, cell_new]
      simpa using hk) (by simpa using h1) (by unfold maxLen; omega) (by
        calc (n + 1) * by_ ≤ (n + 1) * 24 := Nat.mul_le_mul_left _ hby
          _ ≤ 140737488355328 := by omega) (by simp; omega)
  obtain ⟨ao, co, rfl⟩ := ownsRow_slice hown3
  refine ⟨ao, co, w3, hr, hown3, fun w0 B hB hw0 hBb => ?_, fun b hbl hne => ?_, ?_⟩
  · have hs := hB.size
    refine (hB.trans (((Below.refl _ w).alloc (Nat.le_refl _) _).mono ?_)).grown hgr (by simp; omega) (fun k hk => Nat.le_trans hBb (hown.lt k hk).1)
    omega
  · exact (hgr.block b (by simp; omega) (fun e => hne e.symm)).trans (Below.heap_alloc w _ b hbl)
  · have := hgr.size; simp at this; omega
/-- an owned row where its own block is as it was -/
theorem ownsRow_keep {w w' : World} {base : Nat} {T : TypeId} {sz : Nat} {v : Value} {n : Nat} {xs : List Value} (h : w.ownsRow base T sz v n xs) (hk : ∀ g, v.ownBlock = some g → w'.heap[g]? = w.heap[g]?) : w'.ownsRow base T sz v n xs := by
  obtain ⟨hl, hr⟩ := h
  refine ⟨hl, ?_⟩
  rcases hr with hr | ⟨g, cap, cur, rfl, hb, hg, rest⟩
  · exact .inl hr
  · exact .inr ⟨g, cap, cur, rfl, hb, (hk g rfl).trans hg, rest⟩
theorem ownsRow_block {w : World} {base : Nat} {T : TypeId} {sz : Nat} {v : Value} {n : Nat} {xs : List Value} (h : w.ownsRow base T sz v n xs) {g : Nat} (hg : v.ownBlock = some g) : ∃ cur, w.heap[g]? = some (.cells cur T (0, 0)) := by
  rcases h.2 with ⟨rfl, _⟩ | ⟨g', cap, cur, rfl, _, hb, _⟩
  · simp [Value.ownBlock] at hg
  · simp [Value.ownBlock] at hg; subst hg; exact ⟨cur, hb⟩
end
/-! Sp4 -/
section
set_option linter.unusedSimpArgs false
set_option linter.unusedVariables false
open Go.RowKit Go.Maps Go.Shelf

section
variable {w0 w : World} {s d : Nat} {F : Nat → Prop} {n N : Int} {V D : Int → ByteArray}

/-- what SetHead answers -/
def spSet (x : ByteArray) : Int := if x.size ≠ 248 then 3 else 0



/-- the pages that are taken -/
def takenTo (n : Int) (x : ByteArray) (k : Nat) : List Int := ((List.range k).filter fun j => bitB x (j + 1)).map fun (j : Nat) => jFirst n + 1 + (j : Int)
theorem takenTo_succ (n : Int) (x : ByteArray) (k : Nat) : takenTo n x (k + 1) = if bitB x (k + 1) then takenTo n x k ++ [jFirst n + 1 + (k : Int)] else takenTo n x k := by
  unfold takenTo
  rw [List.range_succ, List.filter_append, List.map_append]
  by_cases h : bitB x (k + 1) <;> simp [List.filter_cons, h]
theorem takenTo_length (n : Int) (x : ByteArray) (k : Nat) : (takenTo n x k).length ≤ k := by
  unfold takenTo
  rw [List.length_map]
  exact Nat.le_trans (List.length_filter_le _ _) (by simp)

set_option maxHeartbeats 1000000 in
set_option maxRecDepth 100000 in
theorem takenl_sp (h : SIn w0 w s d F n V D N) (hN : N < 2305843009213693000) :
    Calls Tryz.prog 24 #[.pointer (some ⟨s, 0, none⟩)] w fun e w' => ∃ a cap w1, e = .returned (.slice a (takenTo n (V (jFirst n)) (spMany n)).length cap) ∧
      SStp w0 w w1 s d F n V D (N + 2) ∧ Below w1.heap.size w1 w' ∧
      w'.ownsRow w1.heap.size 3 1 (.slice a (takenTo n (V (jFirst n)) (spMany n)).length cap) (takenTo n (V (jFirst n)) (spMany n)).length ((takenTo n (V (jFirst n)) (spMany n)).map encZ) := by
  have hbd := h.bd
  have hF := jFirst_bd n
  obtain ⟨m1, m2, m3⟩ := spMany_bd hbd.1 hbd.2
  have hc := h.cell0
  have hC := sfirst_any s n w hc
  have hpg := h.first
  have HX := Lib.hid (h.size hpg)
  have H := Lib.hid h
  have hL := load_sp h hpg (by omega)
  have HL := Lib.hid hL
  have HSF : Hid (∀ w' : World, w'.cell? ⟨s, 0, none⟩ = some (.int .i64 n) → Calls Tryz.prog 57 #[.pointer (some ⟨s, 0, none⟩)] w' fun e w'' => e = .returned (.int .i64 (jFirst n)) ∧ w' = w'') := fun w' => sfirst_any s n w'
  have HSL : Hid (∀ w' : World, w'.cell? ⟨s, 0, none⟩ = some (.int .i64 n) → Calls Tryz.prog 58 #[.pointer (some ⟨s, 0, none⟩)] w' fun e w'' => e = .returned (.int .i64 (jFirst n + spMany n)) ∧ ∃ k, w'' = w'.drewN k) := fun w' hc' => by
    rw [show jFirst n + (spMany n : Int) = jFirst n + jPages n - 2 by omega]; exact slast_any s n w' hc'
  have HSB : Hid (∀ (w' : World) (j : Nat), w'.cell? ⟨s, 0, none⟩ = some (.int .i64 n) → j < 2047 → Calls Tryz.prog 59 #[.pointer (some ⟨s, 0, none⟩), .string (V (jFirst n)), .int .i64 (jFirst n + 1 + j)] w' fun e w'' => e = .returned (.bool (bitB (V (jFirst n)) (j + 1))) ∧ w' = w'') := fun w' j hc' hj =>
    sbit_any s n w' hc' _ HX.out (j + 1) (by omega) _ (by omega)
  clear h hL hpg hc m3 HX
  have HTS : Hid (∀ k, takenTo n (V (jFirst n)) (k + 1) = if bitB (V (jFirst n)) (k + 1) then takenTo n (V (jFirst n)) k ++ [jFirst n + 1 + (k : Int)] else takenTo n (V (jFirst n)) k) := takenTo_succ n (V (jFirst n))
  have HTL : Hid (∀ k, (takenTo n (V (jFirst n)) k).length ≤ k) := takenTo_length n (V (jFirst n))
  have HT0 : Hid (takenTo n (V (jFirst n)) 0 = []) := rfl
  generalize takenTo n (V (jFirst n)) = T at *
  generalize spMany n = m at *
  generalize V (jFirst n) = x at *
  generalize jFirst n = f at *
  go_enter Tryz.func24, Tryz.ntmps24
  go_wp2_with (go_at_call 57; refine hC.mono ?_; rintro e w' ⟨rfl, rfl⟩)
  refine HL.out.mono ?_
  rintro e w1 ⟨rfl, hS⟩
  have HS := Lib.hid hS
  have HC0 := Lib.hid hS.sin.cell0
  have hC1 := HSF.out w1 hS.sin.cell0
  have hsl := hS.sin.slt
  clear hS HL hC
  go_wp2_with (go_at_call 57; refine hC1.mono ?_; rintro e w' ⟨rfl, rfl⟩)
  go_loopw [5, 6] (fun o i wr => ∃ (k : Nat) (a : Option Addr) (cap : Nat), i = .int .i64 (f + 1 + k) ∧ k ≤ m ∧ o = .slice a (T k).length cap ∧ Hid (wr.ownsRow w1.heap.size 3 1 (.slice a (T k).length cap) (T k).length ((T k).map encZ)) ∧ Hid (Below w1.heap.size w1 wr)) (fun _ i _ => (f + 1 + m - intOf i).toNat)
  case atStart => exact ⟨0, none, 0, by simp, by omega, by rw [HT0.out]; rfl, Lib.hid (by rw [HT0.out]; exact World.ownsRow_nil _ _ _ _), Lib.hid (Below.refl _ _)⟩
  case round =>
    obtain ⟨k, a, cap, rfl, hk, rfl, HO, HB⟩ := hrel
    have hc0 : wr.cell? ⟨s, 0, none⟩ = some (.int .i64 n) := (HB.out.cell (p := ⟨s, 0, none⟩) hsl).trans HC0.out
    have hl := HSL.out wr hc0
    by_cases hlt : k < m
    · have hb : ∀ q, Calls Tryz.prog 59 #[.pointer (some ⟨s, 0, none⟩), .string x, .int .i64 (f + 1 + k)] (wr.drewN q) fun e w'' => e = .returned (.bool (bitB x (k + 1))) ∧ wr.drewN q = w'' :=
        fun q => HSB.out (wr.drewN q) k hc0 (by omega)
      have hts := HTS.out k
      cases hbit : bitB x (k + 1) with
      | false =>
        rw [hbit] at hb hts
        have HTK : Hid (T (k + 1) = T k) := by show _ = _; rw [hts]; simp
        clear hbit hts hc0
        go_wp2_with (first
          | (go_at_call 58; refine hl.mono ?_; rintro e w' ⟨rfl, q, rfl⟩)
          | (go_at_call 59; refine (hb _).mono ?_; rintro e w' ⟨rfl, rfl⟩))
        go_roundw
        case rel => exact ⟨k + 1, a, cap, by congr 1; push_cast; omega, by omega, by rw [HTK.out], Lib.hid (by rw [HTK.out]; exact HO.out), Lib.hid (HB.out.trans ((drewN_below wr _).mono HB.out.size))⟩
        case measure => simp [intOf]; omega
      | true =>
        rw [hbit] at hb hts
        have HTK : Hid (T (k + 1) = T k ++ [f + 1 + (k : Int)]) := by show _ = _; rw [hts]; simp
        have htl := HTL.out k
        have HAP : Hid (∀ q, ∃ ao co w3, (Builtin.append_ #[44, 44] 44 #[.slice a (T k).length cap, .slice (some ⟨(wr.drewN q).heap.size, 0, none⟩) 1 1]).run Tryz.prog ((wr.drewN q).alloc (.cells #[.int .i64 (f + 1 + k)] 3)) = .ok (.slice ao ((T k).length + 1) co) w3 ∧
            w3.ownsRow w1.heap.size 3 1 (.slice ao ((T k).length + 1) co) ((T k).length + 1) ((T k).map encZ ++ [.int .i64 (f + 1 + k)]) ∧ (∀ w0 B, Below B w0 (wr.drewN q) → w0.heap.size ≤ w1.heap.size → B ≤ w1.heap.size → Below B w0 w3)) :=
          fun q => one_append 3 44 (.int .i64 0) 8 info_int Tryz.underlying44 rfl (by omega) (wr.drewN q) w1.heap.size _ _ _ (.int .i64 (f + 1 + k)) rfl HO.out (by omega) HB.out.size
        clear hbit hts hc0
        go_wp2_with (first
          | (go_at_call 58; refine hl.mono ?_; rintro e w' ⟨rfl, q, rfl⟩
             obtain ⟨ao, co, w3, hr, HOW, HBL⟩ := HAP.out q)
          | (go_at_call 59; refine (hb _).mono ?_; rintro e w' ⟨rfl, rfl⟩)
          | (at_builtin; refine wpList_append_run hr rfl rfl rfl rfl rfl ?_))
        go_roundw
        case rel =>
          have hlen : (T (k + 1)).length = (T k).length + 1 := by rw [HTK.out]; simp
          refine ⟨k + 1, ao, co, by congr 1; push_cast; omega, by omega, by rw [hlen], ?_, ?_⟩
          · show World.ownsRow _ _ _ _ _ _ _
            rw [hlen, HTK.out, List.map_append]
            exact HOW
          · exact HBL w1 w1.heap.size (HB.out.trans ((drewN_below wr _).mono HB.out.size)) (Nat.le_refl _) (Nat.le_refl _)
        case measure => simp [intOf]; omega
    · obtain rfl : k = m := by omega
      clear hc0
      go_wp2_with (go_at_call 58; refine hl.mono ?_; rintro e w' ⟨rfl, q, rfl⟩)
      go_ret
      exact ⟨a, cap, w1, rfl, HS.out, HB.out.trans ((drewN_below wr _).mono HB.out.size), HO.out⟩

/-- how many of the user's pages are free -/
def spFree (n : Int) (V : Int → ByteArray) : Int := (spMany n : Int) - (takenTo n (V (jFirst n)) (spMany n)).length
end
end
/-! Get -/
section
set_option linter.unusedSimpArgs false
set_option linter.unusedVariables false
open Go.RowKit Go.Maps Go.Shelf

/-- the number that stands at a place -/
def getN (s : ByteArray) (at_ k : Nat) : Nat := (List.range k).foldl (fun n i => n * 256 + byteN s (at_ + i)) 0
theorem getN_succ (s : ByteArray) (at_ k : Nat) : getN s at_ (k + 1) = getN s at_ k * 256 + byteN s (at_ + k) := by
  unfold getN; rw [List.range_succ, List.foldl_append]; rfl
theorem getN_lt (s : ByteArray) (at_ : Nat) : ∀ k, getN s at_ k < 256 ^ k
  | 0 => by simp [getN]
  | k + 1 => by
    have := getN_lt s at_ k
    have := byteN_lt s (at_ + k)
    rw [getN_succ, Nat.pow_succ]; omega
theorem wraps_u64 (n : Int) (h₀ : 0 ≤ n) (h₁ : n < 2 ^ 64) : IntKind.u64.wrap n = n := by rw [IntKind.wrap_u64]; omega
theorem u64_join (a b : Nat) (ha : a < 256) (hb : b < 72057594037927936) : bits BinOp.or IntKind.u64 ((b : Int) * 256) (a : Int) = (b : Int) * 256 + (a : Int) :=
  bits_join .u64 64 (by decide) wraps_u64 8 _ _ (by omega) (by omega) (by omega) (by omega) (by omega) (by omega)

set_option maxHeartbeats 1000000 in
set_option maxRecDepth 100000 in
theorem get_any (s : ByteArray) (at_ k : Nat) (w : World) (hk1 : 1 ≤ k) (hk2 : k ≤ 8) (h : at_ + k ≤ s.size) (hs : s.size ≤ 140737488355328) :
    Calls Tryz.prog 77 #[.string s, .int .i64 at_, .int .i64 k] w fun e w' => e = .returned (.tuple #[.int .u64 (getN s at_ k), .int .i64 0]) ∧ w = w' := by
  have HS0 : Hid (getN s at_ 0 = 0) := rfl
  have HSS : Hid (∀ j, getN s at_ (j + 1) = getN s at_ j * 256 + byteN s (at_ + j)) := getN_succ s at_
  have HLT : Hid (∀ j, j ≤ 7 → getN s at_ j < 72057594037927936) := fun j hj => by
    have := getN_lt s at_ j
    have h2 : 256 ^ j ≤ 256 ^ 7 := Nat.pow_le_pow_right (by omega) hj
    have h3 : 256 ^ 7 = 72057594037927936 := by decide
    omega
  have HBY : Hid (∀ j, j < s.size → byteN s j = s[j]!.toNat) := fun j hj => by rw [byteN_get s hj]; simp [getElem!_pos, hj]
  generalize hG : getN s at_ = G at *
  clear hG
  go_enter Tryz.func77, Tryz.ntmps77
  go_wp2
  go_loop [8, 29] (fun n i => ∃ j : Nat, j ≤ k ∧ i = .int .i64 j ∧ n = .int .u64 (G j)) (fun _ i => k - (intOf i).toNat)
  case atStart => exact ⟨0, by omega, rfl, by rw [HS0.out]; rfl⟩
  case round =>
    obtain ⟨j, hj, rfl, rfl⟩ := hrel
    by_cases hlt : j < k
    · have hb := HLT.out j (by omega)
      have hin : at_ + j < s.size := by omega
      have hby := byteN_lt s (at_ + j)
      have hju := u64_join (byteN s (at_ + j)) (G j) hby hb
      have hgs := HSS.out j
      obtain ⟨g, HG⟩ : ∃ g, Hid (G j = g) := ⟨_, Lib.hid rfl⟩
      have HGS := Lib.hid hgs
      have HJU := Lib.hid hju
      clear hgs hju
      rw [HG.out] at hb ⊢
      have HE : Hid (bits BinOp.or IntKind.u64 ((g : Int) * 256) (IntKind.u64.wrap (s[at_ + j].toNat : Int)) = ((G (j + 1) : Nat) : Int)) := by
        show _ = _
        rw [← byteN_get s hin, wraps_u64 _ (by omega) (by omega)]
        have h1 := HJU.out
        have h2 := HGS.out
        rw [HG.out] at h1 h2
        rw [h1, h2]
        push_cast; rfl
      clear hby
      go_wp2
      go_round
      case rel => exact ⟨j + 1, by omega, by go_num, congrArg (fun z => Value.int .u64 z) HE.out⟩
      case measure => simp [intOf]; omega
    · obtain rfl : k = j := by omega
      go_wp2
      go_ret2
      exact ⟨rfl, rfl⟩

/-- a text that does not begin with four bytes -/
theorem prefix_not (x p : ByteArray) (w : World) (hx : x.size = 256) (hp : p.size = 4) (hne : x.extract 0 4 ≠ p) :
    Calls Tryz.prog 97 #[.string x, .string p] w fun e w' => e = .returned (.bool false) ∧ w = w' := by
  have hb : ((x.extract 0 4).toList == p.toList) = false := by
    rw [beq_eq_false_iff_ne]
    intro h
    exact hne (ByteArray.ext (Array.ext' (by simpa [ByteArray.toList_eq] using h)))
  have hbb : ∀ W, Calls Tryz.prog 145 #[.string x, .string p] W fun e w' => e = .returned (.bool false) ∧ W = w' := fun W => by
    go_enter Tryz.func145, Tryz.ntmps145
    go_wp2
    go_ret
    exact ⟨rfl, rfl⟩
  clear hne hb
  go_enter Tryz.func97, Tryz.ntmps97
  go_wp2_with (go_at_call 145; refine (hbb _).mono ?_; rintro e w' ⟨rfl, rfl⟩)
  go_ret
  exact ⟨rfl, rfl⟩
end
/-! Open -/
section
set_option linter.unusedSimpArgs false
set_option linter.unusedVariables false
open Go.RowKit Go.Maps Go.Shelf

set_option maxRecDepth 100000 in
theorem told_none (d : Addr) (x : ByteArray) (w : World) (hx : x.size = 256) (hne : x.extract 0 4 ≠ jMark) :
    Calls Tryz.prog 103 #[.pointer (some d), .string x] w fun e w' => e = .returned (.tuple #[.slice none 0 0, .int .i64 0]) ∧ w = w' := by
  have hG := get_any x 4 2 w (by omega) (by omega) (by omega) (by omega)
  have hP := prefix_not x jMark w hx rfl hne
  clear hne
  unfold jMark at hP
  go_enter Tryz.func103, Tryz.ntmps103
  go_wp2_with (first
    | (go_at_call 77; refine hG.mono ?_; rintro e w' ⟨rfl, rfl⟩)
    | (go_at_call 97; refine hP.mono ?_; rintro e w' ⟨rfl, rfl⟩))
  go_ret2
  exact ⟨rfl, rfl⟩

theorem fill_nil : fill ⟨#[]⟩ = zerosB 256 := by
  unfold fill padB
  apply ByteArray.ext
  rw [ByteArray.data_append]
  simp [ByteArray.size]
theorem zeros_extract {n k : Nat} (h : k ≤ n) : (zerosB n).extract 0 k = zerosB k := by
  apply ByteArray.ext
  apply Array.ext'
  simp only [zerosB, ByteArray.data_extract, Array.toList_extract, List.extract_eq_take_drop, List.drop_zero, Nat.sub_zero, List.take_replicate]
  rw [Nat.min_eq_left h]
theorem byteN_zeros (n i : Nat) : byteN (zerosB n) i = 0 := by
  unfold byteN zerosB
  simp only [List.getD_eq_getElem?_getD, List.getElem?_replicate]
  split <;> rfl
theorem fill_mark : (fill ⟨#[]⟩).extract 0 4 ≠ jMark := by
  rw [fill_nil, zeros_extract (by omega)]
  intro h
  have h1 : byteN (zerosB 4) 0 = byteN jMark 0 := by rw [h]
  rw [byteN_zeros] at h1
  exact absurd h1 (by decide)
theorem zeros_name (n : Int) : (zerosB 256).extract 0 8 ≠ spName n := by
  rw [zeros_extract (by omega)]
  intro h
  have h1 : byteN (zerosB 8) 0 = byteN (spName n) 0 := by rw [h]
  rw [byteN_zeros] at h1
  have h2 : byteN (spName n) 0 = 97 := by
    unfold spName byteN
    rw [ByteArray.data_append]
    simp
  omega

theorem recover_none {w : World} {d bb : Nat} {lg : Value} {D : Dsk} (h : DiskAt w d bb lg D) (hr : D.read 1 = (fill ⟨#[]⟩, 0)) :
    Calls Tryz.prog 64 #[.pointer (some ⟨d, 0, none⟩)] w fun e w' => e = .returned (.tuple #[.int .i64 0, .int .i64 0]) ∧ w = w' := by
  have hR := read_any h 1
  rw [hr] at hR
  have hT := told_none ⟨d, 0, none⟩ (fill ⟨#[]⟩) w (padB_size (by decide)) fill_mark
  clear h hr
  simp only at hR
  generalize fill ⟨#[]⟩ = x at *
  go_enter Tryz.func64, Tryz.ntmps64
  go_wp2_with (first
    | (go_at_call 102; refine hR.mono ?_; rintro e w' ⟨rfl, rfl⟩)
    | (go_at_call 103; refine hT.mono ?_; rintro e w' ⟨rfl, rfl⟩))
  go_ret2
  exact ⟨rfl, rfl⟩

/-- a disk that is laid out -/
def spLaid (n : Int) (V : Int → ByteArray) : Int → ByteArray := upd (upd V 0 (padB (spName n) 256)) (jFirst n) (padB ⟨#[1]⟩ 256)
section
variable {w0 w : World} {s d : Nat} {F : Nat → Prop} {n N : Int} {V D : Int → ByteArray}
theorem SIn.pager (h : SIn w0 w s d F n V D N) {p : Nat} (hp : w.cell? ⟨s, 1, none⟩ = some (.pointer (some ⟨p, 0, none⟩))) :
    ∃ S, PIn w0 w p d F S ∧ Sp S n V D N ∧ w.heap[s]? = some (.cells #[.int .i64 n, .pointer (some ⟨p, 0, none⟩)] 118 (0, 0)) := by
  obtain ⟨q, S, hP, hS, hc⟩ := h.ex
  rw [cell_of hc 1] at hp
  simp at hp
  subst hp
  exact ⟨S, hP, hS, hc⟩
theorem SIn.step {w' : World} {V' D' : Int → ByteArray} {N' : Int} {p : Nat} {S' : Pgr} (h : SIn w0 w s d F n V D N) (hc : w.heap[s]? = some (.cells #[.int .i64 n, .pointer (some ⟨p, 0, none⟩)] 118 (0, 0)))
    (hP : PIn w0 w' p d (ext F w w') S') (hS : Sp S' n V' D' N') (hU : Upd F w w') : SStp w0 w w' s d F n V' D' N' := by
  refine ⟨⟨⟨p, S', hP, hS, (hU.block s (lt_of hc) h.out).trans hc⟩, h.new, fun hx => ?_, h.glob⟩, hU⟩
  rcases hx with hx | hx
  · exact h.out hx
  · have := lt_of hc; omega
theorem SStp.cell {w' : World} {V' D' : Int → ByteArray} {N' : Int} (h : SIn w0 w s d F n V D N) (k : SStp w0 w w' s d F n V' D' N') (i : Nat) : w'.cell? ⟨s, i, none⟩ = w.cell? ⟨s, i, none⟩ :=
  k.upd.cell (p := ⟨s, i, none⟩) h.slt h.out
theorem pstore_sp (h : SIn w0 w s d F n V D N) {p : Nat} (hp : w.cell? ⟨s, 1, none⟩ = some (.pointer (some ⟨p, 0, none⟩))) {i : Int} (hi : isPage n i = true) (x : ByteArray) (hx : x.size = 256) :
    Calls Tryz.prog 112 #[.pointer (some ⟨p, 0, none⟩), .int .i64 i, .string x] w fun e w' => e = .returned (.int .i64 0) ∧ SStp w0 w w' s d F n (upd V i x) D N := by
  obtain ⟨S, hP, hS, hc⟩ := h.pager hp
  have hb := isPage_bd hi
  obtain ⟨l1, l2⟩ := hS.store hi hx
  have hL := store_in hP i x (wf_small (by omega)) (by omega)
  rw [l1] at hL
  exact hL.mono fun _ _ ⟨he, hP1, hU⟩ => ⟨he, h.step hc hP1 l2 hU⟩
theorem pcommit_sp (h : SIn w0 w s d F n V D N) {p : Nat} (hp : w.cell? ⟨s, 1, none⟩ = some (.pointer (some ⟨p, 0, none⟩))) (hN : N < 900000000000) :
    Calls Tryz.prog 113 #[.pointer (some ⟨p, 0, none⟩)] w fun e w' => e = .returned (.int .i64 0) ∧ SStp w0 w w' s d F n V V (N + 4000) := by
  obtain ⟨S, hP, hS, hc⟩ := h.pager hp
  obtain ⟨l1, l2⟩ := hS.commit
  have hL := commit_in hP (fun h => by rw [hS.sees.up.told] at h; cases h) (by have := hS.sees.log; omega) (by have := hS.sees.clock; omega)
  rw [l1] at hL
  exact hL.mono fun _ _ ⟨he, hP1, hU⟩ => ⟨he, h.step hc hP1 l2 hU⟩
theorem pload_sp (h : SIn w0 w s d F n V D N) {p : Nat} (hp : w.cell? ⟨s, 1, none⟩ = some (.pointer (some ⟨p, 0, none⟩))) {i : Int} (hi : isPage n i = true) (hN : N < 2305843009213693952) :
    Calls Tryz.prog 66 #[.pointer (some ⟨p, 0, none⟩), .int .i64 i] w fun e w' => e = .returned (.tuple #[.string (V i), .int .i64 0]) ∧ SStp w0 w w' s d F n V D (N + 2) := by
  obtain ⟨S, hP, hS, hc⟩ := h.pager hp
  have hb := isPage_bd hi
  have hck := hS.sees.clock
  have hrd := hS.sees.reads
  obtain ⟨l1, l2⟩ := hS.load hi
  have hL := load_in hP i (wf_small (by omega)) (by omega) (by omega)
  rw [l1] at hL
  exact hL.mono fun _ _ ⟨he, hP1, hU⟩ => ⟨he, h.step hc hP1 l2 hU⟩

set_option maxHeartbeats 1000000 in
set_option maxRecDepth 100000 in
theorem lay_sp (h : SIn w0 w s d F n V D N) (hN : N < 900000000000) :
    Calls Tryz.prog 68 #[.pointer (some ⟨s, 0, none⟩)] w fun e w' => e = .returned (.int .i64 0) ∧ SStp w0 w w' s d F n (spLaid n V) (spLaid n V) (N + 4000) := by
  have H := Lib.hid h
  have hbd := h.bd
  have HNm := Lib.hid (sname_any s n w h.cell0 hbd.1 hbd.2)
  have hns := spName_size n
  have HPF := Lib.hid h.first
  have hFb := jFirst_bd n
  have HZ1 : Hid ((padB (spName n) 256).size = 256) := padB_size (by omega)
  have HZ2 : Hid ((padB ⟨#[1]⟩ 256).size = 256) := padB_size (by decide)
  have HPd1 : Hid (∀ w', Calls Tryz.prog 111 #[.string (spName n), .int .i64 (256 : Nat)] w' fun e w'' => e = .returned (.tuple #[.string (padB (spName n) 256), .int .i64 0]) ∧ Below w'.heap.size w' w'') := fun w' => pad_any _ 256 w' (by omega) (by omega)
  have HPd2 : Hid (∀ w', Calls Tryz.prog 111 #[.string ⟨#[1]⟩, .int .i64 (256 : Nat)] w' fun e w'' => e = .returned (.tuple #[.string (padB ⟨#[1]⟩ 256), .int .i64 0]) ∧ Below w'.heap.size w' w'') := fun w' => pad_any _ 256 w' (by decide) (by omega)
  have HLD : Hid (spLaid n V = upd (upd V 0 (padB (spName n) 256)) (jFirst n) (padB ⟨#[1]⟩ 256)) := rfl
  rw [HLD.out]
  clear h HLD
  generalize padB (spName n) 256 = hd at *
  generalize padB ⟨#[1]⟩ 256 = bt at *
  go_enter Tryz.func68, Tryz.ntmps68
  go_wp2_with fail
  refine HNm.out.mono ?_
  rintro e w1 ⟨rfl, hB⟩
  have HB1 := Lib.hid hB
  clear hB HNm
  go_wp2_with fail
  refine (HPd1.out w1).mono ?_
  rintro e w2 ⟨rfl, hB⟩
  have HB2 := Lib.hid (HB1.out.trans (hB.mono HB1.out.size))
  clear hB HPd1 HB1
  go_wp2_with fail
  refine (HPd2.out w2).mono ?_
  rintro e w3 ⟨rfl, hB⟩
  have HB3 := Lib.hid (HB2.out.trans (hB.mono HB2.out.size))
  have hS3 := H.out.made HB3.out
  have HS3 := Lib.hid hS3
  clear hB HPd2 HB2
  obtain ⟨p, hp3⟩ : ∃ p : Nat, w3.cell? ⟨s, 1, none⟩ = some (.pointer (some ⟨p, 0, none⟩)) := by
    obtain ⟨p, S, hP, hS, hc⟩ := hS3.ex
    exact ⟨p, by rw [cell_of hc]; rfl⟩
  have HST := Lib.hid (pstore_sp hS3 hp3 (page_zero n) hd HZ1.out)
  clear hS3
  go_wp2_with fail
  refine HST.out.mono ?_
  rintro e w4 ⟨rfl, hS4⟩
  have HS4 := Lib.hid hS4
  have hp4 := (SStp.cell HS3.out hS4 1).trans hp3
  clear hS4 HST hp3
  go_upto_region 4 with fail
  refine wp_region_still_tail 7 (by kernel_rfl) (by kernel_rfl) ?_
  generalize hwd : ({ w4 with drawn := w4.drawn + 1 } : World) = w5 at *
  have hB5 : Below w4.heap.size w4 w5 := by rw [← hwd]; exact ⟨rfl, rfl, rfl, Nat.le_refl _, fun _ _ => rfl⟩
  have hp5 : w5.cell? ⟨s, 1, none⟩ = some (.pointer (some ⟨p, 0, none⟩)) := by rw [← hwd]; exact hp4
  have HS5 := Lib.hid (SStp.made HS3.out HS4.out hB5)
  have hf5 := sfirst_any s n w5 HS5.out.sin.cell0
  have HST := Lib.hid (pstore_sp HS5.out.sin hp5 HPF.out bt HZ2.out)
  clear hwd hB5 hp4 HS4
  simp only [List.take_succ_cons, List.take_zero, List.drop_succ_cons, List.drop_zero]
  repeat still_step
  still_call (hf5.mono fun _ _ ⟨a, b⟩ => ⟨a, b.symm⟩)
  repeat still_step
  refine wpStill_nil ?_
  go_wp2_with fail
  refine HST.out.mono ?_
  rintro e w6 ⟨rfl, hS6⟩
  have HS6 := Lib.hid (SStp.trans HS3.out HS5.out hS6)
  have hp6 := (SStp.cell HS5.out.sin hS6 1).trans hp5
  have HCM := Lib.hid (pcommit_sp hS6.sin hp6 hN)
  have HS6' := Lib.hid hS6
  clear hS6 HST hp5 hf5
  go_wp2_with fail
  refine HCM.out.mono ?_
  rintro e w7 ⟨rfl, hS7⟩
  have HS7 := Lib.hid (SStp.trans HS5.out.sin HS6'.out hS7)
  clear hS7 HCM
  go_wp2
  go_ret
  exact ⟨rfl, SStp.after H.out HB3.out (SStp.trans HS3.out HS5.out HS7.out)⟩
end
theorem sp_new {D : Dsk} {room N : Int} (h1 : 1 ≤ room) (h2 : room ≤ 1024) (hb : 64 ≤ D.n ∧ D.n ≤ 2048) (hs : ∀ s ∈ D.blocks, s.size = 256) (hup : D.Up) (hj : D.blk 1 = fill ⟨#[]⟩) (hN : (D.log.length : Int) ≤ N) : Sp (newPgr D room) D.n D.blk D.blk N := by
  have hn : 64 ≤ D.blocks.length ∧ D.blocks.length ≤ 2048 := by unfold Dsk.n at hb; omega
  exact ⟨newPgr_ok h1 h2 hn hs, ⟨by intro q hq; simp [newPgr] at hq, hup, rfl, rfl, by simp [newPgr]; omega, by simp [newPgr]; omega, by intro q hq; simp [newPgr] at hq, hN⟩, fun i _ => rfl, fun i _ => rfl, hj⟩

theorem bytes_neq {x y : ByteArray} (h : x ≠ y) : (x.toList == y.toList) = false := by
  rw [ByteArray.toList_eq, ByteArray.toList_eq]
  simp only [beq_eq_false_iff_ne, ne_eq]
  intro e
  apply h
  have := Array.toList_inj.1 e
  cases x; cases y; simp_all
/-- what Open leaves -/
def spOpened (D : Dsk) : Int → ByteArray := if (D.blk 0).extract 0 8 = spName D.n then D.blk else spLaid D.n D.blk
set_option maxHeartbeats 2000000 in
set_option maxRecDepth 100000 in
theorem open_sp {w0 w : World} {d bb : Nat} {lg : Value} {D : Dsk} {room N : Int} (hB0 : Below w0.heap.size w0 w) (hg : Glob w0) (hD : DiskAt w d bb lg D) (hF0 : ∀ b, b = d ∨ b = bb ∨ lg.ownBlock = some b → w0.heap.size ≤ b)
    (h1 : 1 ≤ room) (h2 : room ≤ 1024) (hb : 64 ≤ D.n ∧ D.n ≤ 2048) (hs : ∀ s ∈ D.blocks, s.size = 256) (hup : D.Up) (hj : D.blk 1 = fill ⟨#[]⟩) (hN : (D.log.length : Int) ≤ N) (hNN : N < 800000000000) :
    Calls Tryz.prog 26 #[.pointer (some ⟨d, 0, none⟩), .int .i64 room] w fun e w' => ∃ s F, e = .returned (.tuple #[.pointer (some ⟨s, 0, none⟩), .int .i64 0]) ∧ SIn w0 w' s d F D.n (spOpened D) (spOpened D) (N + 5000) ∧
      Upd (fun b => b = d ∨ b = bb ∨ lg.ownBlock = some b) w w' ∧ (∀ b, F b → (b = d ∨ b = bb ∨ lg.ownBlock = some b) ∨ w.heap.size ≤ b) := by
  have hbl : 64 ≤ D.blocks.length ∧ D.blocks.length ≤ 2048 := by unfold Dsk.n at hb; omega
  have HSp := Lib.hid (sp_new h1 h2 hb hs hup hj hN)
  have HNw := Lib.hid (pagerNew_ok hD room h1 h2 hbl hs)
  have hr1 : D.read 1 = (fill ⟨#[]⟩, 0) := by
    unfold Dsk.read
    have : D.may 1 = 0 := by unfold Dsk.may; rw [if_neg (by simp [hup.down]), if_neg (by omega)]
    rw [if_pos this, ← hj]; rfl
  have HRC : Hid (∀ w', DiskAt w' d bb lg D → Calls Tryz.prog 64 #[.pointer (some ⟨d, 0, none⟩)] w' fun e w'' => e = .returned (.tuple #[.int .i64 0, .int .i64 0]) ∧ w' = w'') := fun w' h => recover_none h hr1
  have HLN : Hid (∀ w', DiskAt w' d bb lg D → Calls Tryz.prog 65 #[.pointer (some ⟨d, 0, none⟩)] w' fun e w'' => e = .returned (.int .i64 D.n) ∧ w' = w'') := fun w' h => len_any h
  have HDK : Hid (∀ w', Below w.heap.size w w' → DiskAt w' d bb lg D) := fun w' hB => hD.keep fun b _ _ _ hb' _ _ => hB.block b (lt_of hb')
  have HB0 := Lib.hid hB0
  have HG := Lib.hid hg
  have HF0 := Lib.hid hF0
  have HBD := Lib.hid hb
  have HDL0 : Hid (d < w.heap.size ∧ bb < w.heap.size ∧ ∀ k, lg.ownBlock = some k → k < w.heap.size) := ⟨lt_of hD.d, lt_of hD.bb, fun k hk => hD.fp_lt (.inr (.inr hk))⟩
  clear hr1 hj hup hs hbl hD hB0 hg hF0 hb hN
  go_enter Tryz.func26, Tryz.ntmps26
  go_wp2_with fail
  refine HNw.out.mono ?_
  rintro e w1 ⟨p, rfl, hp, hP, hB⟩
  have HP := Lib.hid hP
  have HB1 := Lib.hid hB
  have HDL : Hid (d < w1.heap.size ∧ bb < w1.heap.size ∧ ∀ k, lg.ownBlock = some k → k < w1.heap.size) := by
    obtain ⟨a, b, c⟩ := HDL0.out
    have := hB.size
    exact ⟨by omega, by omega, fun k hk => by have := c k hk; omega⟩
  have hrc := HRC.out w1 (HDK.out w1 hB)
  have hln := HLN.out w1 (HDK.out w1 hB)
  clear hP hB HNw HRC HLN HDK
  go_wp2_with (first
    | (go_at_call 64; refine hrc.mono ?_; rintro e w' ⟨rfl, rfl⟩)
    | (go_at_call 65; refine hln.mono ?_; rintro e w' ⟨rfl, rfl⟩))
  have hI0 : SIn w0 (w1.alloc (.cells #[.int .i64 D.n, .pointer (some ⟨p, 0, none⟩)] 118)) w1.heap.size d (fun b => (b = d ∨ b = bb ∨ lg.ownBlock = some b) ∨ (w.heap.size ≤ b ∧ b < w1.heap.size)) D.n D.blk D.blk N := by
    have hs0 := HB0.out.size
    have hs1 := HB1.out.size
    have hP1 : PIn w0 w1 p d (fun b => (b = d ∨ b = bb ∨ lg.ownBlock = some b) ∨ (w.heap.size ≤ b ∧ b < w1.heap.size)) (newPgr D room) :=
      ⟨HP.out, fun b hb => by rcases hb with hb | hb; exact HF0.out b hb; omega, HB0.out.trans (HB1.out.mono hs0)⟩
    refine ⟨⟨p, _, hP1.alloc _, HSp.out, heap_alloc_new' _ _⟩, by omega, fun hx => ?_, HG.out⟩
    rcases hx with hx | hx
    · have : w1.heap.size < w1.heap.size := by
        obtain ⟨a, b, c⟩ := HDL.out
        rcases hx with hx | hx | hx
        · omega
        · omega
        · exact c _ hx
      omega
    · omega
  have hp2 : (w1.alloc (.cells #[.int .i64 D.n, .pointer (some ⟨p, 0, none⟩)] 118)).cell? ⟨w1.heap.size, 1, none⟩ = some (.pointer (some ⟨p, 0, none⟩)) := by rw [cell_new]; rfl
  have hLD := pload_sp hI0 hp2 (page_zero D.n) (by omega)
  have HLD := Lib.hid hLD
  have HI0 := Lib.hid hI0
  have HF1 : Hid (Below w.heap.size w (w1.alloc (.cells #[.int .i64 D.n, .pointer (some ⟨p, 0, none⟩)] 118)) ∧ w.heap.size ≤ w1.heap.size) := ⟨HB1.out.trans (((Below.refl _ w1).alloc (Nat.le_refl _) _).mono HB1.out.size), HB1.out.size⟩
  clear hrc hln hLD hI0 hp2 HP HB1 HB0 HSp
  generalize (w1.alloc (.cells #[.int .i64 D.n, .pointer (some ⟨p, 0, none⟩)] 118)) = w2 at *
  generalize w1.heap.size = s at *
  refine HLD.out.mono ?_
  rintro e w3 ⟨rfl, hS3⟩
  have HS3 := Lib.hid hS3
  have HFX : Hid ((∀ b, ((b = d ∨ b = bb ∨ lg.ownBlock = some b) ∨ w.heap.size ≤ b ∧ b < s) → (b = d ∨ b = bb ∨ lg.ownBlock = some b) ∨ w.heap.size ≤ b) ∧ (∀ b, b < w.heap.size → ((b = d ∨ b = bb ∨ lg.ownBlock = some b) ∨ w.heap.size ≤ b ∧ b < s) → (b = d ∨ b = bb ∨ lg.ownBlock = some b))) :=
    ⟨fun b hb => hb.imp id (fun h => h.1), fun b hb h => h.elim id (fun h => by omega)⟩
  clear hS3 HLD
  generalize hF : (fun b => (b = d ∨ b = bb ∨ lg.ownBlock = some b) ∨ (w.heap.size ≤ b ∧ b < s)) = F0 at *
  have HFX2 : Hid ((∀ b, F0 b → (b = d ∨ b = bb ∨ lg.ownBlock = some b) ∨ w.heap.size ≤ b) ∧ (∀ b, b < w.heap.size → F0 b → (b = d ∨ b = bb ∨ lg.ownBlock = some b))) := by rw [← hF]; exact HFX.out
  have HU3 : Hid (Upd (fun b => b = d ∨ b = bb ∨ lg.ownBlock = some b) w w3) := (Upd.below HF1.out.1 (fun x hx hle => by omega)).then HS3.out.upd (fun x hx hf => HFX2.out.2 x hx hf)
  have HS2 := Lib.hid HF1.out.1.size
  clear hF HFX HF1
  have HNm := Lib.hid (sname_any s D.n w3.drew HS3.out.sin.cell0 HBD.out.1 HBD.out.2)
  have hx0 := HI0.out.size (page_zero D.n)
  have hnz := spName_size D.n
  by_cases hname : (D.blk 0).extract 0 8 = spName D.n
  · have HOP : Hid (spOpened D = D.blk) := if_pos hname
    have HNA := Lib.hid hname
    clear hname
    generalize D.blk 0 = x0 at *
    generalize spName D.n = nm at *
    go_upto_region 11 with fail
    have hxe := HNA.out
    go_region_with (go_at_call 67; refine HNm.out.mono ?_; rintro e w4 ⟨rfl, hB4⟩; have HB4 : Hid (Below w3.heap.size w3 w4) := ((Below.refl _ w3).drew).trans hB4; clear hB4)
    all_goals
      go_wp2
      go_ret2
      refine ⟨s, ext F0 w2 w3, rfl, ?_, HU3.out.trans (Upd.below HB4.out (fun x hx hle => ?_)), fun b hb => ?_⟩
      · rw [HOP.out]; exact (HS3.out.sin.made HB4.out).mono (by omega)
      · have := HU3.out.size; omega
      · have := HS2.out
        rcases hb with hb | hb
        · exact HFX2.out.1 b hb
        · exact .inr (by omega)
  · have HOP : Hid (spOpened D = spLaid D.n D.blk) := if_neg hname
    have hnb := bytes_neq hname
    have hnb2 : (((D.blk 0).extract 0 8).toList != (spName D.n).toList) = true := by simp [bne, hnb]
    have HLY : Hid (∀ w4, SIn w0 w4 s d (ext F0 w2 w3) D.n D.blk D.blk (N + 2) → Calls Tryz.prog 68 #[.pointer (some ⟨s, 0, none⟩)] w4 fun e w' => e = .returned (.int .i64 0) ∧ SStp w0 w4 w' s d (ext F0 w2 w3) D.n (spLaid D.n D.blk) (spLaid D.n D.blk) (N + 2 + 4000)) := fun w4 h4 => lay_sp h4 (by omega)
    clear hname
    generalize D.blk 0 = x0 at *
    generalize spName D.n = nm at *
    go_upto_region 11 with fail
    go_region_with (go_at_call 67; refine HNm.out.mono ?_; rintro e w4 ⟨rfl, hB4⟩; have HB4 : Hid (Below w3.heap.size w3 w4) := ((Below.refl _ w3).drew).trans hB4; clear hB4)
    all_goals
      have HS4 := Lib.hid (HS3.out.sin.made HB4.out)
      have HL4 := Lib.hid (HLY.out w4 HS4.out)
      clear HLY
      go_wp2_with fail
      refine HL4.out.mono ?_
      rintro e w5 ⟨rfl, hS5⟩
      have HS5 := Lib.hid hS5
      clear hS5 HL4
      go_wp2
      go_ret2
      have h34 := HB4.out.size
      have h23 := HS3.out.upd.size
      have h45 := HS5.out.upd.size
      have h02 := HS2.out
      refine ⟨s, ext (ext F0 w2 w3) w4 w5, rfl, ?_, (HU3.out.trans (Upd.below HB4.out (fun x hx hle => ?_))).then HS5.out.upd (fun x hx hf => ?_), fun b hb => ?_⟩
      · rw [HOP.out]; exact HS5.out.sin.mono (by omega)
      · have := HU3.out.size; omega
      · rcases hf with hf | hf
        · exact HFX2.out.2 x hx hf
        · omega
      · rcases hb with (hb | hb) | hb
        · exact HFX2.out.1 b hb
        · exact .inr (by omega)
        · exact .inr (by omega)
end
end Go.Proofs.YtmgcaohpbaiiaaaGreatDoor
