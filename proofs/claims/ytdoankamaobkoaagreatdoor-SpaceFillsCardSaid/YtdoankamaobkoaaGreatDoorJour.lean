/- What a round of the journal's writing keeps; the iterator journal.home. -/
import Derived.Test.YtdoankamaobkoaaGreatDoorRange
import Derived.Shelf.Abstract
import Derived.Shelf.RegionOpen
import Derived.OwnWalkIn
import Derived.TacticsInMore
import Derived.LoopNIn
import Derived.LoopIn
set_option linter.unusedSimpArgs false
set_option linter.unusedVariables false
namespace Go.Proofs.YtdoankamaobkoaaGreatDoor
open Go.RowKit Go.Maps Go.Shelf

theorem wide_room (n : Nat) : (Fence.wide.depth.isSome = true → 1 ≤ n) ↔ True := by simp [Fence.wide]
theorem wide_fn (k : Nat) : Fence.wide.fn k ↔ True := Iff.rfl
theorem wide_room_in (l n : Nat) : ((Fence.wide.inRound l).depth.isSome = true → 1 ≤ n) ↔ True := by simp [Fence.wide]
theorem wide_fn_in (l k : Nat) : (Fence.wide.inRound l).fn k ↔ True := Iff.rfl
attribute [local go_sem] Oper.semAt_some wide_room wide_fn wide_room_in wide_fn_in

/-- the disk has turned into another; what is neither its blocks nor X lies as it lay -/
def KD (d bb : Nat) (X : Nat → Prop) (W W' : World) : Prop :=
  ∀ lg S, DiskAt W d bb lg S → ∃ lg' S', DiskAt W' d bb lg' S' ∧ W.heap.size ≤ W'.heap.size ∧
    (∀ b o, W.heap[b]? = some o → ¬ dfp d bb lg b → ¬ X b → W'.heap[b]? = some o) ∧ (∀ b, lg'.ownBlock = some b → lg.ownBlock = some b ∨ W.heap.size ≤ b)

theorem KD.trans {d bb : Nat} {X : Nat → Prop} {A B C : World} (h : KD d bb X A B) (k : KD d bb X B C) : KD d bb X A C := by
  intro lg S hS
  obtain ⟨lg1, S1, h1, hs1, hf1, hl1⟩ := h lg S hS
  obtain ⟨lg2, S2, h2, hs2, hf2, hl2⟩ := k lg1 S1 h1
  refine ⟨lg2, S2, h2, by omega, fun b o hb hd hx => hf2 b o (hf1 b o hb hd hx) (fun hd1 => ?_) hx, fun b hb => ?_⟩
  · rcases hd1 with h | h | h
    · exact hd (.inl h)
    · exact hd (.inr (.inl h))
    · rcases hl1 b h with h | h
      · exact hd (.inr (.inr h))
      · have := lt_of hb; omega
  · rcases hl2 b hb with h | h
    · exact hl1 b h
    · exact .inr (by omega)
theorem KD.mono {d bb : Nat} {X Y : Nat → Prop} {A B : World} (h : KD d bb X A B) (hx : ∀ b, X b → Y b) : KD d bb Y A B := by
  intro lg S hS
  obtain ⟨lg1, S1, h1, hs1, hf1, hl1⟩ := h lg S hS
  exact ⟨lg1, S1, h1, hs1, fun b o hb hd hy => hf1 b o hb hd (fun hx' => hy (hx b hx')), hl1⟩
theorem DiskAt.below {w w' : World} {d bb : Nat} {lg : Value} {S : Dsk} (h : DiskAt w d bb lg S) (hB : Below w.heap.size w w') : DiskAt w' d bb lg S :=
  h.keep fun b _ _ _ hb _ _ => hB.block b (lt_of hb)
theorem KD.below {d bb : Nat} {X : Nat → Prop} {W W' : World} (hB : Below W.heap.size W W') : KD d bb X W W' := fun lg S hS =>
  ⟨lg, S, hS.below hB, hB.size, fun b o hb _ _ => (hB.block b (lt_of hb)).trans hb, fun b hb => .inl hb⟩
theorem KD.alloc {d bb : Nat} {X : Nat → Prop} (W : World) (o : Obj) : KD d bb X W (W.alloc o) := .below ((Below.refl _ W).alloc (Nat.le_refl _) o)
theorem KD.loop {d bb : Nat} {X : Nat → Prop} {W : World} {l : Nat} {r : Loop} (o' : Obj) (hl : W.heap[l]? = some (.loop r)) (hx : X l) : KD d bb X W (W.putObj l o') := by
  intro lg S hS
  refine ⟨lg, S, hS.keep fun b cs T f hb _ _ => World.putObj_heap_other (fun e => by rw [e, hl] at hb; simp at hb), by simp, fun b o hb _ hb' => ?_, fun b hb => .inl hb⟩
  exact (World.putObj_heap_other (fun e => hb' (by rw [e]; exact hx))).trans hb
theorem diskAt_lg {w : World} {d bb : Nat} {lg lg' : Value} {S S' : Dsk} (h : DiskAt w d bb lg S) (h' : DiskAt w d bb lg' S') : lg = lg' := by
  have e := h.d
  rw [h'.d] at e
  simp at e
  exact e.2.1.symm
theorem KD.stp {d bb : Nat} {X : Nat → Prop} {w w' : World} {lg lg' : Value} {S S' : Dsk} (h : DiskAt w d bb lg S) (k : DStp d bb lg lg' w w' S') : KD d bb X w w' := by
  intro lg1 S1 h1
  obtain rfl := diskAt_lg h h1
  exact ⟨lg', S', k.at_, k.upd.size, fun b o hb hd _ => (k.upd.block b (lt_of hb) hd).trans hb, k.log⟩

/-- the disk, and blocks of others that lie apart from it -/
def Safe (d bb : Nat) (X : Nat → Prop) (W : World) (ps : List (Nat × Obj)) : Prop :=
  ∃ lg S, DiskAt W d bb lg S ∧ ∀ p ∈ ps, W.heap[p.1]? = some p.2 ∧ ¬ dfp d bb lg p.1 ∧ ¬ X p.1
theorem Safe.kd {d bb : Nat} {X : Nat → Prop} {W W' : World} {ps : List (Nat × Obj)} (h : Safe d bb X W ps) (k : KD d bb X W W') : Safe d bb X W' ps := by
  obtain ⟨lg, S, hS, hp⟩ := h
  obtain ⟨lg1, S1, h1, hs1, hf1, hl1⟩ := k lg S hS
  refine ⟨lg1, S1, h1, fun p hpm => ?_⟩
  obtain ⟨ho, hd, hx⟩ := hp p hpm
  refine ⟨hf1 _ _ ho hd hx, fun hd1 => ?_, hx⟩
  rcases hd1 with h | h | h
  · exact hd (.inl h)
  · exact hd (.inr (.inl h))
  · rcases hl1 _ h with h | h
    · exact hd (.inr (.inr h))
    · have := lt_of ho; omega
theorem Safe.sub {d bb : Nat} {X : Nat → Prop} {W : World} {ps qs : List (Nat × Obj)} (h : Safe d bb X W ps) (hq : ∀ p ∈ qs, p ∈ ps) : Safe d bb X W qs := by
  obtain ⟨lg, S, hS, hp⟩ := h
  exact ⟨lg, S, hS, fun p hpm => hp p (hq p hpm)⟩
theorem Safe.obj {d bb : Nat} {X : Nat → Prop} {W : World} {ps : List (Nat × Obj)} (h : Safe d bb X W ps) {b : Nat} {o : Obj} (hm : (b, o) ∈ ps) : W.heap[b]? = some o := by
  obtain ⟨lg, S, hS, hp⟩ := h
  exact (hp _ hm).1
theorem Safe.also {d bb : Nat} {X Y : Nat → Prop} {W : World} {ps : List (Nat × Obj)} (h : Safe d bb X W ps) (hY : ∀ p ∈ ps, ¬ Y p.1) : Safe d bb (fun b => Y b ∨ X b) W ps := by
  obtain ⟨lg, S, hS, hp⟩ := h
  exact ⟨lg, S, hS, fun p hpm => ⟨(hp p hpm).1, (hp p hpm).2.1, fun hx => hx.elim (hY p hpm) (hp p hpm).2.2⟩⟩
/-- a block that is newer than a world in which all was safe -/
theorem Safe.add {d bb : Nat} {X : Nat → Prop} {W W' : World} {ps : List (Nat × Obj)} (h : Safe d bb X W ps) (hB : Below W.heap.size W W') (hX : ∀ b, X b → b < W.heap.size) {b : Nat} {o : Obj} (hb : W.heap.size ≤ b) (ho : W'.heap[b]? = some o) : Safe d bb X W' ((b, o) :: ps) := by
  have h2 := h.kd (KD.below (X := X) hB)
  obtain ⟨lg0, S0, hS0, _⟩ := h
  obtain ⟨lg, S, hS, hp⟩ := h2
  obtain rfl := diskAt_lg (hS0.below hB) hS
  refine ⟨lg0, S, hS, fun p hpm => ?_⟩
  rcases List.mem_cons.1 hpm with rfl | hpm
  · refine ⟨ho, fun hd => ?_, fun hx => by have := hX _ hx; simp at this; omega⟩
    have := hS0.fp_lt hd
    simp at this
    omega
  · exact hp p hpm

theorem OwnFrom.made {β : Type} {B : Nat} {I : β → World → Prop} (h : OwnFrom B I) {s : β} {W W' : World} (hs : I s W) (hB : Below W.heap.size W W') : I s W' :=
  h s W W' none hs ⟨hB.os, hB.tape, hB.output, hB.size, fun k hk _ => hB.block k hk⟩ (fun r e => by cases e)

/-- the object of a slice of pages -/
def RowP (o : Obj) (l : Pgs) : Prop := ∃ cs T f, o = .cells cs T f ∧ ∀ i (h : i < l.length), cs[i * 2]? = some (.int .i64 l[i].1) ∧ cs[i * 2 + 1]? = some (.string l[i].2)
theorem RowP.cell {o : Obj} {l : Pgs} (h : RowP o l) {w : World} {g : Nat} (hg : w.heap[g]? = some o) {i : Nat} (hi : i < l.length) : w.cell? ⟨g, i * 2, none⟩ = some (.int .i64 l[i].1) ∧ w.cell? ⟨g, i * 2 + 1, none⟩ = some (.string l[i].2) := by
  obtain ⟨cs, T, f, rfl, hc⟩ := h
  rw [cell_of hg, cell_of hg]
  exact hc i hi

def homeL (l : Pgs) : Pgs := l ++ [(1, fill ⟨#[]⟩)]

set_option maxRecDepth 100000 in
set_option maxHeartbeats 4000000 in
theorem home1_yields {d bb : Nat} {X : Nat → Prop} {l : Pgs} {w0 : World} {Bl g cap : Nat} {oB og : Obj} (hoB : oB = .cells #[.slice (some ⟨g, 0, none⟩) l.length cap] 81 (0, 0)) (hog : RowP og l) (hn : l.length ≤ 4096)
    (hS : Safe d bb X w0 [(Bl, oB), (g, og)]) :
    Yields 110 #[.pointer (some ⟨Bl, 0, none⟩)] (homeL l) (fun l2 => KD d bb (fun b => b = l2 ∨ X b)) w0 := by
  intro n l2 J Jx W hB hl2 hlt2 hrec hJ hJx hY h0
  have hSW : Safe d bb (fun b => b = l2 ∨ X b) W [(Bl, oB), (g, og)] := by
    refine (hS.kd (KD.below hB)).also (Y := fun b => b = l2) ?_
    intro p hp e
    have hb := lt_of (hS.obj (b := p.1) (o := p.2) hp)
    omega
  have cB := cell_of ((hSW.obj (b := Bl) (o := oB) (by simp)).trans (by rw [hoB])) 0
  simp at cB
  have hSg : Safe d bb (fun b => b = l2 ∨ X b) W [(g, og)] := hSW.sub (by simp)
  clear hSW hS hoB
  obtain ⟨N, hN⟩ : ∃ N, N = l.length := ⟨_, rfl⟩
  rw [← hN] at cB hn
  refine callsIn_of_wp Tryz.func110 rfl trivial ?_ rfl
  simp only [Tryz.ntmps110, List.size_toArray, List.length_cons, List.length_nil, Nat.reduceAdd, Nat.reduceSub, Array.replicate_succ, Array.replicate_zero, List.push_toArray, List.append_toArray, List.nil_append, List.cons_append]
  gi_wp2
  gi_loopw [7] (fun u wr => ∃ j : Nat, u = .int .i64 j ∧ j ≤ N ∧ J (l.take j) wr ∧ Safe d bb (fun b => b = l2 ∨ X b) wr [(g, og)] ∧ W.heap.size ≤ wr.heap.size) (fun u _ => N - (intOf u).toNat)
  case atStart => exact ⟨0, rfl, by omega, h0, hSg, Nat.le_refl _⟩
  case round =>
    obtain ⟨j, rfl, hj, hJj, hSj, hszj⟩ := hrel
    clear hSg h0
    by_cases hlt : j < N
    · have hlt' : j < l.length := by omega
      obtain ⟨hb0, hb1⟩ := hog.cell (hSj.obj (b := g) (o := og) (by simp)) hlt'
      have hpre : l.take j ++ [l[j]] <+: homeL l := by
        rw [← List.take_succ_eq_append_getElem hlt']
        exact (List.take_prefix _ _).trans (List.prefix_append _ _)
      have htk : l.take (j + 1) = l.take j ++ [l[j]] := List.take_succ_eq_append_getElem hlt'
      have hJ2 : J (l.take j) (wr.alloc (boxP l[j])) := hJ.alloc _ hJj
      obtain ⟨fn, tmps, assign, body, hy, hR⟩ := hY (l.take j) l[j] _ hpre hJ2
      have hS2 := hSj.kd (KD.alloc wr (boxP l[j]))
      unfold encP at hy
      unfold boxP at hy hR hS2
      rw [← htk] at hR
      clear hpre htk hJ2 hJj hSj
      generalize l[j].1 = y at *
      generalize l[j].2 = x at *
      gi_wp2
      refine hR.mono ?_
      rintro e W3 (⟨rfl, hJ3, hk3⟩ | ⟨rfl, hJx3, _⟩)
      · have hS3 := hS2.kd hk3
        have hz3 : W.heap.size ≤ W3.heap.size := by
          obtain ⟨lg, S, hD, _⟩ := hS2
          obtain ⟨_, _, _, h, _⟩ := hk3 lg S hD
          simp at h
          omega
        clear hk3 hS2
        gi_wp2
        go_roundw
        case rel => exact ⟨j + 1, rfl, by omega, hJ3, hS3, hz3⟩
        case measure => simp [intOf]; omega
      · gi_wp2
        refine bodyPost_ret (results_none rfl _ _ _) rfl ?_
        exact ⟨⟨_, rfl⟩, .inr ⟨_, hJx3⟩⟩
    · obtain rfl : j = N := by omega
      rw [List.take_of_length_le (by omega)] at hJj
      have hfi := filled_any ⟨#[]⟩ wr (by decide)
      have HF : Hid (∀ W3, Below wr.heap.size wr W3 → J l W3) := fun W3 h3 => hJ _ _ _ none hJj ⟨h3.os, h3.tape, h3.output, h3.size, fun k hk _ => h3.block k hk⟩ (fun r e => by cases e)
      clear hJj hSj
      gi_wp2
      refine (callsIn_wide.2 hfi).mono ?_
      rintro e W3 ⟨rfl, hB3⟩
      have hJ3 := HF.out W3 hB3
      obtain ⟨fn, tmps, assign, body, hy, hR⟩ := hY l (1, fill ⟨#[]⟩) W3 (List.prefix_refl _) hJ3
      unfold encP at hy
      have hho : l ++ [(1, fill ⟨#[]⟩)] = homeL l := rfl
      rw [hho] at hR
      clear HF hB3 hfi hJ3 hho
      generalize fill ⟨#[]⟩ = fe at *
      gi_wp2
      refine hR.mono ?_
      rintro e W4 (⟨rfl, hJ4, hk4⟩ | ⟨rfl, hJx4, _⟩)
      · gi_wp2
        go_end0
        exact ⟨⟨_, rfl⟩, .inl hJ4⟩
      · gi_wp2
        go_end0
        exact ⟨⟨_, rfl⟩, .inr ⟨_, hJx4⟩⟩
end Go.Proofs.YtdoankamaobkoaaGreatDoor
