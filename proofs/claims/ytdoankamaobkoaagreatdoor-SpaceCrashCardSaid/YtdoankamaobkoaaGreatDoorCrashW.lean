/- The law's world while the power fails: the disk in a footprint, the two references, the world's block; Cut, Commit, Restore, Open in that word. -/
import Derived.Test.YtdoankamaobkoaaGreatDoorLaysWalk
import Derived.Test.YtdoankamaobkoaaGreatDoorSameD
import Derived.Test.YtdoankamaobkoaaGreatDoorDw
set_option linter.unusedSimpArgs false
set_option linter.unusedVariables false
namespace Go.Proofs.YtdoankamaobkoaaGreatDoor
open Go.RowKit Go.Maps Go.Shelf

/-- a disk on the blocks G -/
structure DkG (w0 w : World) (d : Nat) (z : Int) (G : Nat → Prop) (P : Dsk → Prop) (N : Int) : Prop where
  ex : ∃ bb lg D, DiskAt w d bb lg D ∧ (∀ b, dfp d bb lg b → G b) ∧ D.n = z ∧ (D.log.length : Int) ≤ N ∧ P D
  below : Below w0.heap.size w0 w
  new : ∀ b, G b → w0.heap.size ≤ b
/-- the references and the world's block, apart from G -/
structure Rw (w0 w : World) (W s d : Nat) (G : Nat → Prop) (z : Int) (r1 lo1 hi1 : Nat) (R1 : Rf) (r2 lo2 hi2 : Nat) (R2 : Rf) : Prop where
  out : Out w W G (wdObj d s r1 r2)
  now : RIn w r1 lo1 hi1 z R1
  was : RIn w r2 lo2 hi2 z R2
  ap1 : Apart G lo1 hi1 w
  ap2 : Apart G lo2 hi2 w
  segs : hi1 ≤ lo2 ∨ hi2 ≤ lo1
  w1 : W < lo1 ∨ hi1 ≤ W
  w2 : W < lo2 ∨ hi2 ≤ W
  n1 : w0.heap.size ≤ lo1
  n2 : w0.heap.size ≤ lo2
  nw : w0.heap.size ≤ W
  fl : ∀ b, G b → b < w.heap.size
section
variable {w0 w w' : World} {W s d : Nat} {F G : Nat → Prop} {z N N' : Int} {V D : Int → ByteArray} {r1 lo1 hi1 r2 lo2 hi2 : Nat} {R1 R2 : Rf} {P Q : Dsk → Prop}
theorem Dw.rw (h : Dw w0 w W s d F z V D N r1 lo1 hi1 R1 r2 lo2 hi2 R2) : Rw w0 w W s d F z r1 lo1 hi1 R1 r2 lo2 hi2 R2 :=
  ⟨h.out, h.now, h.was, h.ap1, h.ap2, h.segs, h.w1, h.w2, h.n1, h.n2, h.nw, h.fl⟩
theorem Rw.step (h : Rw w0 w W s d G z r1 lo1 hi1 R1 r2 lo2 hi2 R2) (hu : Upd G w w') : Rw w0 w' W s d (ext G w w') z r1 lo1 hi1 R1 r2 lo2 hi2 R2 :=
  ⟨h.out.step hu, h.now.upd hu h.ap1.no, h.was.upd hu h.ap2.no, h.ap1.step hu.size, h.ap2.step hu.size, h.segs, h.w1, h.w2, h.n1, h.n2, h.nw,
    fun b hb => hb.elim (fun hb => by have := h.fl b hb; have := hu.size; omega) (fun hb => hb.2)⟩
theorem Rw.made (h : Rw w0 w W s d G z r1 lo1 hi1 R1 r2 lo2 hi2 R2) (hB : Below w.heap.size w w') : Rw w0 w' W s d G z r1 lo1 hi1 R1 r2 lo2 hi2 R2 :=
  ⟨h.out.made hB, h.now.made hB, h.was.made hB, h.ap1.made hB.size, h.ap2.made hB.size, h.segs, h.w1, h.w2, h.n1, h.n2, h.nw, fun b hb => by have := h.fl b hb; have := hB.size; omega⟩
theorem Rw.cells (h : Rw w0 w W s d G z r1 lo1 hi1 R1 r2 lo2 hi2 R2) : w.cell? ⟨W, 0, none⟩ = some (.pointer (some ⟨d, 0, none⟩)) ∧ w.cell? ⟨W, 1, none⟩ = some (.pointer (some ⟨s, 0, none⟩)) ∧ w.cell? ⟨W, 2, none⟩ = some (.pointer (some ⟨r1, 0, none⟩)) ∧ w.cell? ⟨W, 3, none⟩ = some (.pointer (some ⟨r2, 0, none⟩)) ∧ (∀ i, w.frozen? ⟨W, i, none⟩ = false) :=
  ⟨cell_in h.out.obj rfl, cell_in h.out.obj rfl, cell_in h.out.obj rfl, cell_in h.out.obj rfl, fun i => frozen_of h.out.obj i⟩
theorem Rw.sub {G' : Nat → Prop} (h : Rw w0 w W s d G z r1 lo1 hi1 R1 r2 lo2 hi2 R2) (hg : ∀ b, G' b → G b) : Rw w0 w W s d G' z r1 lo1 hi1 R1 r2 lo2 hi2 R2 :=
  ⟨⟨h.out.obj, fun hx => h.out.out (hg _ hx)⟩, h.now, h.was, ⟨h.ap1.top, fun b h1 h2 hb => h.ap1.no b h1 h2 (hg b hb)⟩, ⟨h.ap2.top, fun b h1 h2 hb => h.ap2.no b h1 h2 (hg b hb)⟩, h.segs, h.w1, h.w2, h.n1, h.n2, h.nw, fun b hb => h.fl b (hg b hb)⟩
theorem Rw.set (h : Rw w0 w W s d G z r1 lo1 hi1 R1 r2 lo2 hi2 R2) (i : Nat) (u : Value) : RIn (w.setCell ⟨W, i, none⟩ u) r1 lo1 hi1 z R1 ∧ RIn (w.setCell ⟨W, i, none⟩ u) r2 lo2 hi2 z R2 ∧ (w.setCell ⟨W, i, none⟩ u).heap.size = w.heap.size := by
  have hu : Upd (fun b => b = W) w (w.setCell ⟨W, i, none⟩ u) := Upd.setCell (F := fun b => b = W) (Upd.refl _ w) ⟨W, i, none⟩ (fun _ => rfl) u
  exact ⟨h.now.upd hu (fun b h1 h2 e => by have := h.w1; omega), h.was.upd hu (fun b h1 h2 e => by have := h.w2; omega), by simp⟩
/-- what it was becomes a copy of what it is -/
theorem Rw.keep (h : Rw w0 w W s d G z r1 lo1 hi1 R1 r2 lo2 hi2 R2) (h0 : w0.heap.size ≤ w.heap.size) {x : Nat} (hB : Below w.heap.size w w') (hx : RIn w' x w.heap.size w'.heap.size z R1) :
    Rw w0 (w'.setCell ⟨W, 3, none⟩ (.pointer (some ⟨x, 0, none⟩))) W s d G z r1 lo1 hi1 R1 x w.heap.size w'.heap.size R1 := by
  have h' := h.made hB
  obtain ⟨a2, a3, a4⟩ := h'.set 3 (.pointer (some ⟨x, 0, none⟩))
  have hWl := lt_of h.out.obj
  have hu : Upd (fun b => b = W) w' (w'.setCell ⟨W, 3, none⟩ (.pointer (some ⟨x, 0, none⟩))) := Upd.setCell (F := fun b => b = W) (Upd.refl _ w') ⟨W, 3, none⟩ (fun _ => rfl) _
  exact ⟨⟨heap_setCell_same h'.out.obj 3 _, h.out.out⟩, a2, hx.upd hu (fun b h1 h2 e => by omega), ⟨by rw [a4]; exact h'.ap1.top, h.ap1.no⟩, ⟨by rw [a4]; omega, fun b h1 h2 hb => by have := h.fl b hb; omega⟩, .inl h.ap1.top, h.w1, .inl hWl, h.n1, h0, h.nw, fun b hb => by rw [a4]; exact h'.fl b hb⟩
/-- what it is becomes a copy of what it was -/
theorem Rw.back (h : Rw w0 w W s d G z r1 lo1 hi1 R1 r2 lo2 hi2 R2) (h0 : w0.heap.size ≤ w.heap.size) {x : Nat} (hB : Below w.heap.size w w') (hx : RIn w' x w.heap.size w'.heap.size z R2) :
    Rw w0 (w'.setCell ⟨W, 2, none⟩ (.pointer (some ⟨x, 0, none⟩))) W s d G z x w.heap.size w'.heap.size R2 r2 lo2 hi2 R2 := by
  have h' := h.made hB
  obtain ⟨a2, a3, a4⟩ := h'.set 2 (.pointer (some ⟨x, 0, none⟩))
  have hWl := lt_of h.out.obj
  have hu : Upd (fun b => b = W) w' (w'.setCell ⟨W, 2, none⟩ (.pointer (some ⟨x, 0, none⟩))) := Upd.setCell (F := fun b => b = W) (Upd.refl _ w') ⟨W, 2, none⟩ (fun _ => rfl) _
  exact ⟨⟨heap_setCell_same h'.out.obj 2 _, h.out.out⟩, hx.upd hu (fun b h1 h2 e => by omega), a3, ⟨by rw [a4]; omega, fun b h1 h2 hb => by have := h.fl b hb; omega⟩, ⟨by rw [a4]; exact h'.ap2.top, h.ap2.no⟩, .inr h.ap2.top, .inl hWl, h.w2, h0, h.n2, h.nw, fun b hb => by rw [a4]; exact h'.fl b hb⟩
/-- another space -/
theorem Rw.turn (h : Rw w0 w W s d G z r1 lo1 hi1 R1 r2 lo2 hi2 R2) (s' : Nat) : Rw w0 (w.setCell ⟨W, 1, none⟩ (.pointer (some ⟨s', 0, none⟩))) W s' d G z r1 lo1 hi1 R1 r2 lo2 hi2 R2 := by
  obtain ⟨a2, a3, a4⟩ := h.set 1 (.pointer (some ⟨s', 0, none⟩))
  exact ⟨⟨heap_setCell_same h.out.obj 1 _, h.out.out⟩, a2, a3, ⟨by rw [a4]; exact h.ap1.top, h.ap1.no⟩, ⟨by rw [a4]; exact h.ap2.top, h.ap2.no⟩, h.segs, h.w1, h.w2, h.n1, h.n2, h.nw, fun b hb => by rw [a4]; exact h.fl b hb⟩
theorem Rw.dw (h : Rw w0 w W s d G z r1 lo1 hi1 R1 r2 lo2 hi2 R2) (hS : SIn w0 w s d F z V D N) (hF : ∀ b, F b → G b) (h1 : s < lo1 ∨ hi1 ≤ s) (h2 : s < lo2 ∨ hi2 ≤ s) (hw : W ≠ s) : Dw w0 w W s d F z V D N r1 lo1 hi1 R1 r2 lo2 hi2 R2 := by
  have h' := h.sub hF
  exact ⟨hS, h'.out, h.now, h.was, h'.ap1, h'.ap2, h.segs, h.w1, h.w2, h1, h2, h.n1, h.n2, h.nw, hw, h'.fl⟩

theorem DkG.imp (h : DkG w0 w d z G P N) (hi : ∀ D, P D → Q D) : DkG w0 w d z G Q N := by
  obtain ⟨bb, lg, D, hD, hn, hz, hl, hP⟩ := h.ex
  exact ⟨⟨bb, lg, D, hD, hn, hz, hl, hi D hP⟩, h.below, h.new⟩
theorem DkG.mono (h : DkG w0 w d z G P N) (hN : N ≤ N') : DkG w0 w d z G P N' := by
  obtain ⟨bb, lg, D, hD, hn, hz, hl, hP⟩ := h.ex
  exact ⟨⟨bb, lg, D, hD, hn, hz, by omega, hP⟩, h.below, h.new⟩
theorem DkG.made (h : DkG w0 w d z G P N) (hB : Below w.heap.size w w') : DkG w0 w' d z G P N := by
  obtain ⟨bb, lg, D, hD, hn, hz, hl, hP⟩ := h.ex
  exact ⟨⟨bb, lg, D, hD.below hB, hn, hz, hl, hP⟩, h.below.trans (hB.mono h.below.size), h.new⟩
theorem DkG.ext (h : DkG w0 w' d z G P N) (hs : w0.heap.size ≤ w.heap.size) : DkG w0 w' d z (ext G w w') P N := by
  obtain ⟨bb, lg, D, hD, hn, hz, hl, hP⟩ := h.ex
  exact ⟨⟨bb, lg, D, hD, fun b hb => .inl (hn b hb), hz, hl, hP⟩, h.below, fun b hb => hb.elim (h.new b) (fun hb => by omega)⟩
theorem DkG.stp {bb : Nat} {lg lg' : Value} {D' : Dsk} (h : DkG w0 w d z G P N) (hst : DStp d bb lg lg' w w' D') (hf : ∀ b, dfp d bb lg b → G b) (hz : D'.n = z) (hl : (D'.log.length : Int) ≤ N') (hQ : Q D') : DkG w0 w' d z (Go.Proofs.YtdoankamaobkoaaGreatDoor.ext G w w') Q N' ∧ Upd G w w' := by
  have hu : Upd G w w' := hst.upd.mono fun b _ hb => hf b hb
  have hs := h.below.size
  refine ⟨⟨⟨bb, lg', D', hst.at_, fun b hb => ?_, hz, hl, hQ⟩, h.below.trans (hu.toBelow hs (fun x hx hg => by have := h.new x hg; omega)), fun b hb => hb.elim (h.new b) (fun hb => by omega)⟩, hu⟩
  rcases hb with hb | hb | hb
  · exact .inl (hf b (.inl hb))
  · exact .inl (hf b (.inr (.inl hb)))
  · rcases hst.log b hb with h | h
    · exact .inl (hf b (.inr (.inr h)))
    · exact .inr ⟨h, hst.at_.fp_lt (.inr (.inr hb))⟩
/-- Cut -/
theorem cut_g (h : DkG w0 w d z G P N) (n : Int) :
    Calls Tryz.prog 18 #[.pointer (some ⟨d, 0, none⟩), .int .i64 n] w fun e w' => e = .returned (.tuple #[]) ∧ DkG w0 w' d z (Go.Proofs.YtdoankamaobkoaaGreatDoor.ext G w w') (fun D => ∃ D0, P D0 ∧ D = D0.cut n) N ∧ Upd G w w' := by
  obtain ⟨bb, lg, D, hD, hn, hz, hl, hP⟩ := h.ex
  refine (cut_any hD n).mono ?_
  rintro e w' ⟨rfl, hst⟩
  exact ⟨rfl, h.stp hst hn hz hl ⟨D, hP, rfl⟩⟩
/-- Restore -/
theorem restore_g (h : DkG w0 w d z G P N) :
    Calls Tryz.prog 20 #[.pointer (some ⟨d, 0, none⟩)] w fun e w' => e = .returned (.tuple #[]) ∧ DkG w0 w' d z (Go.Proofs.YtdoankamaobkoaaGreatDoor.ext G w w') (fun D => ∃ D0, P D0 ∧ D = D0.restore) N ∧ Upd G w w' := by
  obtain ⟨bb, lg, D, hD, hn, hz, hl, hP⟩ := h.ex
  refine (restore_any hD).mono ?_
  rintro e w' ⟨rfl, hst⟩
  exact ⟨rfl, h.stp hst hn hz hl ⟨D, hP, rfl⟩⟩
/-- Open where a cut is told -/
theorem open_g {room : Int} {PV : (Int → ByteArray) → Prop} (hg : Glob w0) (h1 : 1 ≤ room) (h2 : room ≤ 1024)
    (h : DkG w0 w d z G (fun D => D.down = false ∧ (D.told = true → 0 ≤ D.left ∧ D.left < 9223372036854775808) ∧ ∃ V, PV V ∧ Eff D V) N) (hP : ∀ V, PV V → PV (vOpen z V)) (hN : N < 800000000000) :
    Calls Tryz.prog 19 #[.pointer (some ⟨d, 0, none⟩), .int .i64 room] w fun e w' => ∃ v c, e = .returned (.tuple #[v, .int .i64 c]) ∧ DkG w0 w' d z (Go.Proofs.YtdoankamaobkoaaGreatDoor.ext G w w') (fun D => ∃ V, PV V ∧ Eff D V) (N + 9000) ∧ Upd G w w' := by
  obtain ⟨bb, lg, D, hD, hn, hz, hl, hd, hleft, V, hV, he⟩ := h.ex
  refine (open_any h.below hg hD (fun b hb => h.new b (hn b hb)) h1 h2 he hd hleft hl hN).mono ?_
  rintro e w' ⟨v, c, rfl, hU, bb', lg', D', hD', hf, ht, hz', hl', hw⟩
  have hs := h.below.size
  have hu : Upd G w w' := hU.mono fun b _ hb => hn b hb
  refine ⟨v, c, rfl, ⟨⟨bb', lg', D', hD', fun b hb => ?_, hz'.trans hz, hl', ?_⟩, h.below.trans (hu.toBelow hs (fun x hx hf => by have := h.new x hf; omega)), fun b hb => hb.elim (h.new b) (fun hb => by omega)⟩, hu⟩
  · rcases hf b hb with h | h
    · exact .inl (hn b h)
    · exact .inr ⟨h, hD'.fp_lt hb⟩
  · rw [hz] at hw
    rcases hw with ⟨_, _, _, a | a⟩ | ⟨_, s, _, _, a, _⟩
    · exact ⟨V, hV, a⟩
    · exact ⟨_, hP V hV, a⟩
    · exact ⟨_, hP V hV, a⟩
/-- Open where no cut is told -/
theorem open_up_g {room : Int} {PV : (Int → ByteArray) → Prop} (hg : Glob w0) (h1 : 1 ≤ room) (h2 : room ≤ 1024) (h : DkG w0 w d z G (OnP PV) N) (hN : N < 800000000000) :
    Calls Tryz.prog 19 #[.pointer (some ⟨d, 0, none⟩), .int .i64 room] w fun e w' => ∃ s F V, e = .returned (.tuple #[.pointer (some ⟨s, 0, none⟩), .int .i64 0]) ∧ PV V ∧ SIn w0 w' s d F z (vOpen z V) (vOpen z V) (N + 9000) ∧ w.heap.size ≤ s ∧ Upd G w w' ∧ (∀ b, F b → Go.Proofs.YtdoankamaobkoaaGreatDoor.ext G w w' b) := by
  obtain ⟨bb, lg, D, hD, hn, hz, hl, ht, hd, V, hV, he⟩ := h.ex
  refine (open_any h.below hg hD (fun b hb => h.new b (hn b hb)) h1 h2 he hd (fun h => by rw [ht] at h; cases h) hl hN).mono ?_
  rintro e w' ⟨v, c, rfl, hU, bb', lg', D', hD', hf, ht', hz', hl', hw⟩
  rw [hz] at hw
  rcases hw with ⟨_, _, a, _⟩ | ⟨rfl, s, rfl, hs, _, hS⟩
  · rw [ht] at a; cases a
  · obtain ⟨F, hS, hF⟩ := hS ht
    refine ⟨s, _, V, rfl, hV, hS.lt, hs, hU.mono fun b _ hb => hn b hb, fun b hb => ?_⟩
    rcases hF b hb.1 with h | h
    · exact .inl (hn b h)
    · exact .inr ⟨h, hb.2⟩
end

/-! ### Commit where the power may fail -/
theorem pgr_commit (S : Pgr) : S.commit.1 = (S.disk.commit S.changed).1 ∧ S.commit.2.disk = (S.disk.commit S.changed).2 := by
  unfold Pgr.commit
  split
  · exact ⟨rfl, rfl⟩
  · rename_i hz
    refine ⟨by simp only; omega, ?_⟩
    simp only
    have : ∀ (l : Pgs) (S : Pgr), (S.holds l).disk = S.disk := fun l => by
      induction l with
      | nil => intro S; rfl
      | cons q l ih => intro S; exact (ih _).trans (hold_rest q.1 q.2).2.1
    rw [this]; rfl
section
variable {w0 w w' : World} {W s d p : Nat} {F G : Nat → Prop} {z N : Int} {V D : Int → ByteArray} {S : Pgr}
theorem cut_pin (hP : PIn w0 w p d F S) (n : Int) :
    Calls Tryz.prog 18 #[.pointer (some ⟨d, 0, none⟩), .int .i64 n] w fun e w' => e = .returned (.tuple #[]) ∧ PIn w0 w' p d (ext F w w') { S with disk := S.disk.cut n } ∧ Upd F w w' := by
  obtain ⟨L, rfl, rfl, hA, hfp, hok⟩ := hP.pat
  refine (cut_any hA.disk n).mono ?_
  rintro e w' ⟨rfl, hst⟩
  have hH := Held.disk hA hst
  have hs := Stp.of hfp hH (disk_ok hok (D := S.disk.cut n) ⟨rfl, id⟩)
  exact ⟨rfl, hP.stp hs, hs.upd⟩
set_option maxHeartbeats 1000000 in
set_option maxRecDepth 100000 in
theorem scommit_pin {n : Int} (hP : PIn w0 w p d F S) (hc : w.heap[s]? = some (.cells #[.int .i64 n, .pointer (some ⟨p, 0, none⟩)] 76 (0, 0))) (hleft : S.disk.told = true → 0 ≤ S.disk.left ∧ S.disk.left < 9223372036854775808) (hlog : S.disk.log.length < 999999000000) (hck : S.clock < 4611686018427300000) :
    Calls Tryz.prog 15 #[.pointer (some ⟨s, 0, none⟩)] w fun e w' => e = .returned (.int .i64 S.commit.1) ∧ PIn w0 w' p d (ext F w w') S.commit.2 ∧ Upd F w w' := by
  have c1 := cell_of hc 1
  simp at c1
  have HL := Lib.hid (commit_in hP hleft hlog hck)
  clear hP hc hleft hlog hck
  go_enter Tryz.func15, Tryz.ntmps15
  go_wp2_with fail
  refine HL.out.mono ?_
  rintro e w1 ⟨rfl, hP1, hU⟩
  have HP1 := Lib.hid hP1
  have HU := Lib.hid hU
  clear hP1 hU HL
  go_wp2
  go_ret
  exact ⟨rfl, HP1.out, HU.out⟩
/-- Cut, told to a space's disk: what Commit then comes to -/
theorem cut_commit (h : SIn w0 w s d F z V D N) (n : Int) (hn : 0 ≤ n) (hn2 : n < 1000) (hN : N < 800000000000) :
    Calls Tryz.prog 18 #[.pointer (some ⟨d, 0, none⟩), .int .i64 n] w fun e w1 => e = .returned (.tuple #[]) ∧ Upd F w w1 ∧
      Calls Tryz.prog 15 #[.pointer (some ⟨s, 0, none⟩)] w1 fun e w2 => ∃ c, e = .returned (.int .i64 c) ∧ Upd (ext F w w1) w1 w2 ∧
        DkG w0 w2 d z (ext (ext F w w1) w1 w2) (fun E => ∃ V', (V' = V ∨ (c ≠ 0 ∧ V' = D)) ∧ Eff E V') (N + 9000) := by
  obtain ⟨p, S, hP, hS, hc⟩ := h.ex
  refine (cut_pin hP n).mono ?_
  rintro e w1 ⟨rfl, hP1, hU1⟩
  refine ⟨rfl, hU1, ?_⟩
  have hbd := hS.bd
  have hclk := hS.sees.clock
  have hlog := hS.sees.log
  have hsn : S.disk.n = z := hS.sees.n
  have hcl : CleanB S.disk.n S.disk.blk D := ⟨hS.jour, fun i hi => hS.disk i (by rw [← hsn]; exact hi)⟩
  have he : Eff (S.disk.cut n) D := ⟨hS.ok.blocks, hS.ok.sizes, .inl hcl⟩
  obtain ⟨k1, k2, k3⟩ := commit_cut (D := S.disk.cut n) (V := D) (l := S.changed) he hS.sees.up.down hcl (changed_may hS.ok) hS.ok.srtc
  have hov : ∀ i, isPage S.disk.n i = true → V i = over S.changed D i := fun i hi => by
    have h1 := hS.view i (by rw [← hsn]; exact hi)
    have h2 := hS.disk i (by rw [← hsn]; exact hi)
    unfold Pgr.view at h1
    unfold over
    rw [← h1, h2]
  have hcg : ∀ E : Dsk, E.n = S.disk.n → Eff E (over S.changed D) → Eff E V := fun E hn he => ⟨he.bd, he.sizes, he.eff.congrV (fun i hi => hov i (by rw [← hn]; exact hi))⟩
  refine (scommit_pin hP1 ((hU1.block s (lt_of hc) h.out).trans hc) (fun _ => ⟨hn, by show n < _; omega⟩) (by show S.disk.log.length < _; omega) (by show S.clock < _; omega)).mono ?_
  rintro e w2 ⟨rfl, hP2, hU2⟩
  obtain ⟨g1, g2⟩ := pgr_commit { S with disk := S.disk.cut n }
  refine ⟨_, rfl, hU2, ?_⟩
  obtain ⟨L, hLp, hLd, hA, hfp, hok⟩ := hP2.pat
  subst hLd
  have hlg := commit_log (S.disk.cut n) S.changed
  have hfew : S.changed.length ≤ 1024 := by
    have h1 := pages_few (n := S.disk.n) (by rw [hsn]; exact hbd.1) (by rw [hsn]; exact hbd.2) hS.ok.srtc (fun q hq => (hS.ok.changed q hq).1)
    have h2 := jPages_bd S.disk.n
    omega
  have hl0 : (S.disk.cut n).log.length = S.disk.log.length := rfl
  refine ⟨⟨L.bb, L.lg, _, hA.disk, fun b hb => hfp b (dfp_fp hb), by rw [g2]; exact k2.trans hsn, by rw [g2]; show (((S.disk.cut n).commit S.changed).2.log.length : Int) ≤ _; omega, ?_⟩, hP2.below, hP2.new⟩
  rw [g1, g2]
  have kn : ((S.disk.cut n).commit S.changed).2.n = S.disk.n := k2
  rcases k3 with ⟨a1, a2, a3, a4⟩ | ⟨a1, a2, a3, a4 | a4⟩
  · exact ⟨V, .inl rfl, hcg _ kn a4⟩
  · exact ⟨D, .inr ⟨by show ((S.disk.cut n).commit S.changed).1 ≠ 0; omega, rfl⟩, a4⟩
  · exact ⟨V, .inl rfl, hcg _ kn a4⟩
end

/-! ### a second space on the same disk -/
/-- opened anew, and what turned for it: the disk's blocks alone -/
theorem reopen_g {w0 w : World} {s d : Nat} {F : Nat → Prop} {z N room : Int} {V D : Int → ByteArray} (h : SIn w0 w s d F z V D N) (h1 : 1 ≤ room) (h2 : room ≤ 1024) (hname : (D 0).extract 0 8 = spName z) (hN : N < 800000000000) :
    Calls Tryz.prog 19 #[.pointer (some ⟨d, 0, none⟩), .int .i64 room] w fun e w' => ∃ (s' : Nat) (F' Fd : Nat → Prop), e = .returned (.tuple #[.pointer (some ⟨s', 0, none⟩), .int .i64 0]) ∧ SIn w0 w' s' d F' z D D (N + 9000) ∧ Upd Fd w w' ∧
      (∀ b, F' b → Fd b ∨ w.heap.size ≤ b) ∧ (∀ b, Fd b → F b) ∧ (∀ b, F' b → b < w'.heap.size) ∧
      (∀ w2 F2 V2 N2, SIn w0 w2 s' d F2 z V2 D N2 → Upd Fd w w2 → (∀ b, F2 b → Fd b ∨ w.heap.size ≤ b) → N ≤ N2 → SIn w0 w2 s d (fun b => F b ∨ F2 b) z V D N2) := by
  have hbd := h.bd
  have hB := h.below
  have hg := h.glob
  obtain ⟨p, S, hP, hS, hc⟩ := h.ex
  obtain ⟨L, hLp, hLd, hA, hfp, hok⟩ := hP.pat
  subst hLd hLp
  have hn : S.disk.n = z := hS.sees.n
  have hcl : CleanB S.disk.n S.disk.blk D := ⟨hS.jour, fun i hi => hS.disk i (by rw [← hn]; exact hi)⟩
  have he : Eff S.disk D := ⟨hS.ok.blocks, hS.ok.sizes, .inl hcl⟩
  have hin : ∀ b, dfp L.d L.bb L.lg b → F b := fun b hb => hfp b (dfp_fp hb)
  have hvo : vOpen z D = D := by unfold vOpen; rw [if_pos hname]
  refine (open_any (N := N) hB hg hA.disk (fun b hb => hP.new b (hin b hb)) h1 h2 he hS.sees.up.down (fun h => by rw [hS.sees.up.told] at h; cases h) hS.sees.log hN).mono ?_
  rintro e w' ⟨v, c, rfl, hU, bb', lg', D', hD', hf, ht', hz', hl', hw⟩
  rw [hn, hvo] at hw
  rcases hw with ⟨_, _, a, _⟩ | ⟨rfl, s', rfl, hs, _, hS'⟩
  · rw [hS.sees.up.told] at a; cases a
  · obtain ⟨F', hS', hF'⟩ := hS' hS.sees.up.told
    refine ⟨s', fun b => F' b ∧ b < w'.heap.size, dfp L.d L.bb L.lg, rfl, hS'.lt, hU, fun b hb => hF' b hb.1, hin, fun b hb => hb.2, ?_⟩
    intro w2 F2 V2 N2 h2' hU2 hF2 hNN
    obtain ⟨p2, S2, hP2, hS2, hc2⟩ := h2'.ex
    obtain ⟨L2, hLp2, hLd2, hA2, hfp2, hok2⟩ := hP2.pat
    have hn2 : S2.disk.n = z := hS2.sees.n
    have hkeep : ∀ (b : Nat) (o : Obj), w.heap[b]? = some o → (∀ cs T f, o = Obj.cells cs T f → T ≠ 83 ∧ T ≠ 9 ∧ T ≠ 112) → w2.heap[b]? = w.heap[b]? := by
      intro b o hb ho
      refine hU2.block b (lt_of hb) (fun hd => ?_)
      obtain ⟨cs, T, hb', hT⟩ := hA.disk.fp_cells hd
      rw [hb] at hb'
      simp at hb'
      obtain ⟨h1, h2, h3⟩ := ho _ _ _ hb'
      rcases hT with e | e | e
      · exact h1 e
      · exact h2 e
      · exact h3 e
    have hblk : ∀ i, isPage z i = true → S2.disk.blk i = S.disk.blk i := fun i hi => (hS2.disk i hi).trans (hS.disk i hi).symm
    have hlen : S2.disk.blocks.length = S.disk.blocks.length := by
      have e : S2.disk.n = S.disk.n := hn2.trans hn.symm
      unfold Dsk.n at e; omega
    have hA3 : PagerAt w2 { L with bb := L2.bb, lg := L2.lg } { S with disk := S2.disk } := by
      refine ⟨(hkeep _ _ hA.p (fun cs T f e => by simp at e; obtain ⟨_, rfl, _⟩ := e; decide)).trans hA.p, by rw [← hLd2]; exact hA2.disk, ?_, ?_, fun q hq => (hkeep _ _ (hA.page q hq) (fun cs T f e => by simp at e; obtain ⟨_, rfl, _⟩ := e; decide)).trans (hA.page q hq), hA.hc, hA.inj⟩
      · obtain ⟨es, c, hb⟩ := hA.held.obj
        exact hA.held.congr (hkeep _ _ hb (fun cs T f e => by simp at e))
      · obtain ⟨es, c, hb⟩ := hA.changed.obj
        exact hA.changed.congr (hkeep _ _ hb (fun cs T f e => by simp at e))
    have hok3 : ({ S with disk := S2.disk } : Pgr).Ok := disk_ok hok ⟨hlen, fun _ => hok2.sizes⟩
    have hnF2 : ¬ F2 s := fun hx => (hF2 s hx).elim (fun hd => h.out (hin s hd)) (fun hle => by have := lt_of hc; omega)
    refine ⟨⟨L.p, { S with disk := S2.disk }, ⟨⟨{ L with bb := L2.bb, lg := L2.lg }, rfl, rfl, hA3, fun b hb => ?_, hok3⟩, fun b hb => ?_, h2'.below⟩, ⟨hok3, ⟨fun q hq => ?_, hS2.sees.up, hn2, rfl, by have := hS.sees.clock; show S.clock ≤ _; omega, by have := hS.sees.reads; show S.reads ≤ _; omega, hS.sees.pins, hS2.sees.log⟩, fun i hi => ?_, fun i hi => hS2.disk i hi, hS2.jour⟩, ?_⟩, h.new, ?_, h.glob⟩
    · rcases hb with hb | hb | hb | hb | hb | hb | hb
      · exact .inl (hfp b (.inl hb))
      · exact .inl (hfp b (.inr (.inl hb)))
      · exact .inr (hfp2 b (.inr (.inr (.inl hb))))
      · exact .inl (hfp b (.inr (.inr (.inr (.inl hb)))))
      · exact .inl (hfp b (.inr (.inr (.inr (.inr (.inl hb))))))
      · exact .inr (hfp2 b (.inr (.inr (.inr (.inr (.inr (.inl hb)))))))
      · exact .inl (hfp b (.inr (.inr (.inr (.inr (.inr (.inr hb)))))))
    · rcases hb with hb | hb
      · exact hP.new b hb
      · exact h2'.newF b hb
    · show q.2.data = S2.disk.blk q.1
      rw [hblk q.1 (by rw [← hn]; exact (hok.held q hq).1)]
      exact hS.sees.clean q hq
    · have hv := hS.view i hi
      unfold Pgr.view at hv ⊢
      show (get i S.changed).getD (S2.disk.blk i) = V i
      rw [hblk i hi]; exact hv
    · exact (hU2.block s (lt_of hc) (fun hd => h.out (hin s hd))).trans hc
    · exact fun hx => hx.elim h.out hnF2
end Go.Proofs.YtdoankamaobkoaaGreatDoor
