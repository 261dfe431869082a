/- The pager in what a call has made since it began: each method once more, in that word. -/
import Derived.Test.YtdoankamaobkoaaGreatDoorWakes
set_option linter.unusedSimpArgs false
set_option linter.unusedVariables false
namespace Go.Proofs.YtdoankamaobkoaaGreatDoor
open Go.RowKit Go.Maps Go.Shelf

/-- a pager that lies in what was made since w0, on blocks F; below that nothing has turned -/
structure PIn (w0 w : World) (p d : Nat) (F : Nat → Prop) (S : Pgr) : Prop where
  pat : PAt w p d F S
  new : ∀ b, F b → w0.heap.size ≤ b
  below : Below w0.heap.size w0 w

theorem PAt.ok {w : World} {p d : Nat} {F : Nat → Prop} {S : Pgr} (h : PAt w p d F S) : S.Ok := by obtain ⟨_, _, _, _, _, hok⟩ := h; exact hok
theorem PIn.ok {w0 w : World} {p d : Nat} {F : Nat → Prop} {S : Pgr} (h : PIn w0 w p d F S) : S.Ok := h.pat.ok
theorem PIn.stp {w0 w w' : World} {p d : Nat} {F : Nat → Prop} {S S' : Pgr} (h : PIn w0 w p d F S) (k : Stp F w w' p d S') : PIn w0 w' p d (ext F w w') S' := by
  have hs := h.below.size
  refine ⟨k.pat, fun b hb => ?_, h.below.trans (k.upd.toBelow hs fun x hx hf => by have := h.new x hf; omega)⟩
  rcases hb with hb | hb
  · exact h.new b hb
  · omega
theorem PIn.made {w0 w w' : World} {p d : Nat} {F : Nat → Prop} {S : Pgr} (h : PIn w0 w p d F S) (k : Below w.heap.size w w') : PIn w0 w' p d F S := by
  have hs := h.below.size
  obtain ⟨⟨L, hp, hd, hA, hF, hok⟩, hn, hB⟩ := h
  exact ⟨⟨L, hp, hd, below_pager k hA, hF, hok⟩, hn, hB.trans (k.mono hs)⟩
theorem PIn.alloc {w0 w : World} {p d : Nat} {F : Nat → Prop} {S : Pgr} (h : PIn w0 w p d F S) (o : Obj) : PIn w0 (w.alloc o) p d F S := h.made ((Below.refl _ w).alloc (Nat.le_refl _) o)
theorem PIn.drewN {w0 w : World} {p d : Nat} {F : Nat → Prop} {S : Pgr} (h : PIn w0 w p d F S) (n : Nat) : PIn w0 (w.drewN n) p d F S :=
  h.made ⟨rfl, rfl, rfl, Nat.le_refl _, fun _ _ => rfl⟩

section
variable {w0 w : World} {p d : Nat} {F : Nat → Prop} {S : Pgr}
theorem load_in (h : PIn w0 w p d F S) (i : Int) (hwf : (Lit.int .i64 i).wf = true) (hc : S.clock < 4611686018427387904) (hr : S.reads < 4611686018427387904) :
    Calls Tryz.prog 50 #[.pointer (some ⟨p, 0, none⟩), .int .i64 i] w fun e w' =>
      e = .returned (.tuple #[.string (S.load i).1.1, .int .i64 (S.load i).1.2]) ∧ PIn w0 w' p d (ext F w w') (S.load i).2 ∧ Upd F w w' :=
  (load_at h.pat i hwf hc hr).mono fun _ _ ⟨he, hs⟩ => ⟨he, h.stp hs, hs.upd⟩
theorem store_in (h : PIn w0 w p d F S) (i : Int) (s : ByteArray) (hwf : (Lit.int .i64 i).wf = true) (hsz : s.size ≤ 140737488355328) :
    Calls Tryz.prog 67 #[.pointer (some ⟨p, 0, none⟩), .int .i64 i, .string s] w fun e w' =>
      e = .returned (.int .i64 (S.store i s).1) ∧ PIn w0 w' p d (ext F w w') (S.store i s).2 ∧ Upd F w w' :=
  (store_at h.pat i s hwf hsz).mono fun _ _ ⟨he, hs⟩ => ⟨he, h.stp hs, hs.upd⟩
theorem ownsRow_slice {w : World} {base : Nat} {e : TypeId} {size : Nat} {v : Value} {n : Nat} {xs : List Value} (h : w.ownsRow base e size v n xs) : ∃ a cap, v = .slice a n cap := by
  rcases h.2 with ⟨rfl, rfl⟩ | ⟨g, cap, cur, rfl, _⟩
  · exact ⟨_, _, rfl⟩
  · exact ⟨_, _, rfl⟩
theorem dirty_in (h : PIn w0 w p d F S) :
    Calls Tryz.prog 71 #[.pointer (some ⟨p, 0, none⟩)] w fun e w' => ∃ a cap, e = .returned (.slice a S.changed.length cap) ∧
      w'.ownsRow w.heap.size 3 1 (.slice a S.changed.length cap) S.changed.length ((S.changed.map (·.1)).map encZ) ∧ PIn w0 w' p d F S ∧ Below w.heap.size w w' := by
  have h' := h
  obtain ⟨⟨L, rfl, rfl, hA, _, hok⟩, _, _⟩ := h
  refine (dirty_at hA hok).mono ?_
  rintro e w' ⟨v, rfl, hrow, _, hB⟩
  obtain ⟨a, cap, rfl⟩ := ownsRow_slice hrow
  exact ⟨a, cap, rfl, hrow, h'.made hB, hB⟩
end

theorem new_in (n : Nat) (room : Int) (w0 w : World) (hB : Below w0.heap.size w0 w) (hn1 : 64 ≤ n) (hn2 : n ≤ 2048) (hr1 : 1 ≤ room) (hr2 : room ≤ 1024) (d bb : Nat) (hD : DiskAt w d bb (.slice none 0 0) (newDsk n)) (hd : w0.heap.size ≤ d) (hbb : w0.heap.size ≤ bb) :
    Calls Tryz.prog 47 #[.pointer (some ⟨d, 0, none⟩), .int .i64 room] w fun e w' => ∃ p F, e = .returned (.tuple #[.pointer (some ⟨p, 0, none⟩), .int .i64 0]) ∧ PIn w0 w' p d F (newPgr (newDsk n) room) := by
  refine (pagerNew_ok hD room (by omega) (by omega) (by simp [newDsk]; omega) (by simp [newDsk, zerosB_size])).mono ?_
  rintro e w' ⟨p, rfl, hp, hP, hB'⟩
  have hs := hB.size
  refine ⟨p, _, rfl, hP, fun b hb => ?_, hB.trans (hB'.mono hs)⟩
  rcases hb with (h | h | h) | h
  · omega
  · omega
  · simp [Value.ownBlock] at h
  · omega
theorem newDsk_n (n : Nat) : (newDsk n).n = n := by simp [Dsk.n, newDsk]
theorem newDsk_read {n : Nat} {i : Int} (h0 : 0 ≤ i) (h1 : i < n) : (newDsk n).read i = (zerosB 256, 0) := by
  have hm : (newDsk n).may i = 0 := by
    unfold Dsk.may
    rw [newDsk_n, if_neg (by simp [newDsk]), if_neg (by omega)]
  have hi : i.toNat < n := by omega
  unfold Dsk.read
  rw [if_pos hm]
  simp [newDsk, List.getD, List.getElem?_replicate, hi]
end Go.Proofs.YtdoankamaobkoaaGreatDoor
