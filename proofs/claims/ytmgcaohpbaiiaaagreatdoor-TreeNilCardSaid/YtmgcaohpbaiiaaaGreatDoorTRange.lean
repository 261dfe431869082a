/- A range over a tree's entries. -/
import Derived.Test.YtmgcaohpbaiiaaaGreatDoorTIter
set_option linter.unusedSimpArgs false
set_option linter.unusedVariables false
namespace Go.Proofs.YtmgcaohpbaiiaaaGreatDoor
open Go.RowKit Go.Maps Go.Shelf

attribute [local go_sem] Oper.semAt_some wide_room wide_fn wide_room_in wide_fn_in
section
variable {w0 w W : World} {s dk t root : Nat} {F F' : Nat → Prop} {n N : Int} {V D : Int → ByteArray} {S S1 : TS}
/-- one block that is none of the space's is turned -/
theorem SIn.turn {B : World} {g : Nat} (h : SIn w0 W s dk F n V D N) (hu : Upd (fun b => b = g) W B) (hn : w0.heap.size ≤ g) (ho : ¬ F g) (hs : g ≠ s) : SIn w0 B s dk F n V D N := by
  obtain ⟨p, P, hP, hS, hc⟩ := h.ex
  have hB : Below w0.heap.size w0 B := ⟨hu.os.trans hP.below.os, hu.tape.trans hP.below.tape, hu.output.trans hP.below.output, by have := hP.below.size; have := hu.size; omega, fun k hk => (hu.block k (by have := hP.below.size; omega) (by omega)).trans (hP.below.block k hk)⟩
  exact ⟨⟨p, P, ⟨hP.pat.upd (G := fun b => b = g) hu (fun b hb e => ho (e ▸ hb)), hP.new, hB⟩, hS, (hu.block s (lt_of hc) (fun e => hs e.symm)).trans hc⟩, h.new, h.out, h.glob⟩
theorem TIn.turn {B : World} {g : Nat} (h : TIn w0 W s dk F n V D N t root S) (hu : Upd (fun b => b = g) W B) (hn : w0.heap.size ≤ g) (ho : ¬ F g) (hs : g ≠ s) (ht : g ≠ t) : TIn w0 B s dk F n V D N t root S :=
  ⟨h.sin.turn hu hn ho hs, fun b hb => by have := h.lt b hb; have := hu.size; omega, ⟨(hu.block t (lt_of h.at_.obj) (fun e => ht e.symm)).trans h.at_.obj, h.at_.out⟩, h.shows⟩
/-- blocks that are none of the space's are turned -/
theorem SIn.turnG {B : World} {G : Nat → Prop} (h : SIn w0 W s dk F n V D N) (hu : Upd G W B) (hG : ∀ b, G b → w0.heap.size ≤ b ∧ ¬ F b ∧ b ≠ s) : SIn w0 B s dk F n V D N := by
  obtain ⟨p, P, hP, hS, hc⟩ := h.ex
  have hB : Below w0.heap.size w0 B := ⟨hu.os.trans hP.below.os, hu.tape.trans hP.below.tape, hu.output.trans hP.below.output, by have := hP.below.size; have := hu.size; omega, fun k hk => (hu.block k (by have := hP.below.size; omega) (fun hg => by have := (hG k hg).1; omega)).trans (hP.below.block k hk)⟩
  exact ⟨⟨p, P, ⟨hP.pat.upd (G := G) hu (fun b hb e => (hG b e).2.1 hb), hP.new, hB⟩, hS, (hu.block s (lt_of hc) (fun e => (hG s e).2.2 rfl)).trans hc⟩, h.new, h.out, h.glob⟩
theorem TIn.turnG {B : World} {G : Nat → Prop} (h : TIn w0 W s dk F n V D N t root S) (hu : Upd G W B) (hG : ∀ b, G b → w0.heap.size ≤ b ∧ ¬ F b ∧ b ≠ s ∧ b ≠ t) : TIn w0 B s dk F n V D N t root S :=
  ⟨h.sin.turnG hu fun b hb => ⟨(hG b hb).1, (hG b hb).2.1, (hG b hb).2.2.1⟩, fun b hb => by have := h.lt b hb; have := hu.size; omega, ⟨(hu.block t (lt_of h.at_.obj) (fun e => (hG t e).2.2.2 rfl)).trans h.at_.obj, h.at_.out⟩, h.shows⟩
theorem upd_putObj (W : World) (g : Nat) (o : Obj) : Upd (fun b => b = g) W (W.putObj g o) := ⟨rfl, rfl, rfl, by simp [World.putObj], fun b _ hb => World.putObj_heap_other hb⟩
/-- the caller's own blocks -/
structure Mine (W : World) (F O : Nat → Prop) (t l dm : Nat) : Prop where
  lt : ∀ b, O b → b < W.heap.size
  out : ∀ b, O b → ¬ F b
  tree : ∀ b, O b → b ≠ t
  loop : ∀ b, O b → b ≠ l ∧ b ≠ dm
theorem range_ents {k : Nat} {g : Operand} {p : Tmp} {assign body : Code} {Q : Exit → Act → World → Prop} {a : Act} {gf : Nat} {lb : Array Value} {full : List Ent} {NM : Int}
    (hg : a.eval g = .func (.func gf) #[] lb) (eg : ∀ args w, (callFunc gf args).run Tryz.prog w = .ok (.enter gf args) w)
    (KI : List Ent → World → (Nat → Prop) → Prop) (hKI : KStays KI)
    (hseq : ∀ (K : List Ent → World → (Nat → Prop) → Prop) (l m : Nat) (W : World) (O : Nat → Prop), KStays K → YieldsOk w0 s dk t root n V D S K (fun _ => False) full l → Below w.heap.size w W → (∀ b, O b → ¬ F b) → (∀ b, b < w.heap.size → ¬ O b ∨ ∃ O0, KI [] w O0 ∧ O0 b) → JJ w0 s dk t root n V D S K [] W F N O →
      CallsIn Fence.wide m Tryz.prog gf (#[.func (.yield l) #[] #[]] ++ lb) W fun e W' => (∃ v, e = .returned v) ∧ ∃ F1 O1, JJ w0 s dk t root n V D S K full W' F1 NM O1)
    (O0 : Nat → Prop) (h0 : TIn w0 w s dk F n V D N t root S) (hm0 : Mine w F O0 t (w.heap.size + 1) w.heap.size) (hk0 : KI [] w O0) (hO : ∀ O0', KI [] w O0' → ∀ b, O0' b → O0 b)
    (q : Tmp)
    (hassign : ∀ (m l : Nat) (x : Ent) (W : World) (K : Act → World → Prop), K { tmps := (a.tmps.setIfInBounds p (encE x)).setIfInBounds q (.pointer (some ⟨W.heap.size, 0, none⟩)), defers := [] } (W.alloc (boxE x.1 x.2)) →
      assign.wpIn (Fence.wide.inRound l) m Tryz.prog (Exit.then K (fun _ _ _ => False)) { tmps := a.tmps.setIfInBounds p (encE x), defers := [] } W)
    (hbody : ∀ (m l dm : Nat) (pre : List Ent) (x : Ent) (B : Nat) (W : World) (F1 : Nat → Prop) (N1 : Int) (O1 : Nat → Prop), pre ++ [x] <+: full → TIn w0 W s dk F1 n V D N1 t root S → Mine W F1 O1 t l dm → KI pre W O1 → W.heap[B]? = some (boxE x.1 x.2) → ¬ O1 B → ¬ F1 B → B ≠ l → B ≠ dm → dm + 1 = l → w.heap.size = dm → l < W.heap.size →
      body.wpIn (Fence.wide.inRound l) m Tryz.prog (fun e _ W' => e = .normal ∧ TIn w0 W' s dk F1 n V D N1 t root S ∧ ∃ O2, Mine W' F1 O2 t l dm ∧ KI (pre ++ [x]) W' O2 ∧ ∀ b o, W.heap[b]? = some o → ¬ O1 b → W'.heap[b]? = some o ∧ ¬ O2 b) { tmps := (a.tmps.setIfInBounds p (encE x)).setIfInBounds q (.pointer (some ⟨B, 0, none⟩)), defers := [] } W)
    (hdone : ∀ (dm : Nat) (W : World) F1 O1, dm = w.heap.size → TIn w0 W s dk F1 n V D NM t root S → Mine W F1 O1 t (dm + 1) dm → KI full W O1 → W.heap[dm]? = some (.deferred (some [])) → ¬ F1 dm → Q .normal { a with defers := { target := .collected dm, args := #[] } :: a.defers } W) :
    (Code.rangeFunc g #[p] assign body).wpIn Fence.wide k Tryz.prog Q a w := by
  refine wpIn_rangeFunc fun fn hfn => ?_
  have hb0 := h0.sin.below.size
  have hsl := h0.sin.slt
  have htl := lt_of h0.at_.obj
  obtain ⟨rec, hrec⟩ : ∃ rec : LoopState → Option Code → Loop, rec = fun st pe => { state := st, pending := pe, fn, tmps := a.tmps, params := #[p], assign, body, defers := w.heap.size } := ⟨_, rfl⟩
  obtain ⟨W1, hW1⟩ : ∃ W1, (w.alloc (.deferred (some []))).alloc (.loop (rec .ready none)) = W1 := ⟨_, rfl⟩
  have hs1 : W1.heap.size = w.heap.size + 2 := by rw [← hW1]; simp
  have hbw : Below w.heap.size w W1 := by rw [← hW1]; exact ((Below.refl _ w).alloc (Nat.le_refl _) _).alloc (by simp) _
  let Bk : LoopState → Option Code → World → Prop := fun st pe W => W.heap[w.heap.size + 1]? = some (.loop (rec st pe)) ∧ W.heap[w.heap.size]? = some (.deferred (some []))
  have hB1 : Bk .ready none W1 := by
    refine ⟨?_, ?_⟩
    · rw [← hW1]; have := World.alloc_heap_new (w.alloc (.deferred (some []))) (.loop (rec .ready none)); rwa [World.size_alloc] at this
    · rw [← hW1]; exact (Below.heap_alloc _ _ _ (by simp)).trans (World.alloc_heap_new w _)
  let K : List Ent → World → (Nat → Prop) → Prop := fun pre W O => ∃ O1, KI pre W O1 ∧ (∀ b, O b ↔ (O1 b ∨ b = w.heap.size + 1 ∨ b = w.heap.size)) ∧ (∀ b, O1 b → b ≠ w.heap.size + 1 ∧ b ≠ w.heap.size) ∧ Bk .ready none W
  have hK : KStays K := by
    rintro pre A B O ⟨O1, k1, k2, k3, k4, k5⟩ hsz hbl
    exact ⟨O1, hKI pre A B O1 k1 hsz (fun b hb => hbl b ((k2 b).2 (.inl hb))), k2, k3, (hbl _ ((k2 _).2 (.inr (.inl rfl)))).trans k4, (hbl _ ((k2 _).2 (.inr (.inr rfl)))).trans k5⟩
  have hF0 : ∀ b, w.heap.size ≤ b → ¬ F b := fun b hb hf => by have := h0.lt b hf; omega
  let OO : Nat → Prop := fun b => O0 b ∨ b = w.heap.size + 1 ∨ b = w.heap.size
  have hJ1 : JJ w0 s dk t root n V D S K [] W1 F N OO := by
    refine ⟨h0.made hbw, fun b hb => ?_, O0, hKI [] w W1 O0 hk0 hbw.size (fun b hb => hbw.block b (hm0.lt b hb)), fun b => Iff.rfl, hm0.loop, hB1⟩
    rcases hb with hb | rfl | rfl
    · exact ⟨by have := hm0.lt b hb; omega, hm0.out b hb, hm0.tree b hb⟩
    · exact ⟨by omega, hF0 _ (by omega), by omega⟩
    · exact ⟨by omega, hF0 _ (by omega), by omega⟩
  refine ⟨w.heap.size + 1, [{ target := .collected w.heap.size, args := #[] }], W1, { target := .fn (.func gf) lb, args := #[.func (.yield (w.heap.size + 1)) #[] #[]] }, W1, gf,
    #[.func (.yield (w.heap.size + 1)) #[] #[]] ++ lb, W1, ?_, ?_, fun _ _ => trivial, ?_, fun h => by simp [Fence.wide] at h, ?_⟩
  · rw [← hW1, hrec]; exact run_enterLoop_outer _ _ _ _ _
  · simp only [resolve, hg]
    simp [go_sem]
  · simp [invoke, go_sem, eg]
  · refine (hseq K (w.heap.size + 1) (k - 1) W1 OO hK ?_ hbw ?_ ?_ hJ1).mono ?_
    · -- one round
      rintro m pre x W2 F1 N1 O hpre hJ
      obtain ⟨O1, k1, k2, k3, hl, hk⟩ := hJ.has
      have hy := run_yield (P := Tryz.prog) (args := #[encE x]) hl (by rw [hrec]; rfl)
      have hy2 : (Instr.yield (w.heap.size + 1) #[encE x]).run Tryz.prog W2 = .ok (.round (w.heap.size + 1) fn (a.tmps.setIfInBounds p (encE x)) assign body) W2 := by rw [hy, hrec]; simp
      refine ⟨fn, _, assign, body, hy2, roundIn_of_wpIn hfn ?_⟩
      clear hy hy2
      refine hassign _ _ x W2 _ ?_
      have hJ2 := hJ.made hK (((Below.refl _ W2).alloc (Nat.le_refl _) (boxE x.1 x.2)))
      have hbx : (W2.alloc (boxE x.1 x.2)).heap[W2.heap.size]? = some (boxE x.1 x.2) := heap_alloc_new' W2 _
      have hBa : Below W2.heap.size W2 (W2.alloc (boxE x.1 x.2)) := (Below.refl _ W2).alloc (Nat.le_refl _) _
      have hl2 := (hBa.block _ (lt_of hl)).trans hl
      have hk2 := (hBa.block _ (lt_of hk)).trans hk
      have hka := hKI pre W2 _ O1 k1 hBa.size (fun b hb => hBa.block b (hJ.own b ((k2 b).2 (.inl hb))).1)
      have hBn : ¬ F1 W2.heap.size := fun hf => by have := hJ.tin.lt _ hf; omega
      have hO1n : ¬ O1 W2.heap.size := fun ho => by have := (hJ.own _ ((k2 _).2 (.inl ho))).1; omega
      have hll := lt_of hl
      have hkl := lt_of hk
      obtain ⟨-, nfl, ntl⟩ := hJ.own (w.heap.size + 1) ((k2 _).2 (.inr (.inl rfl)))
      obtain ⟨-, nfd, ntd⟩ := hJ.own w.heap.size ((k2 _).2 (.inr (.inr rfl)))
      have hown1 := hJ.own
      have hta := hJ2.tin
      generalize hWa : W2.alloc (boxE x.1 x.2) = Wa at *
      refine ⟨_, run_beginRound hl2 (by rw [hrec]), ?_⟩
      obtain ⟨o3, ho3⟩ : ∃ o3, Obj.loop { rec .ready none with state := .busy } = o3 := ⟨_, rfl⟩
      rw [ho3]
      have hu := upd_putObj Wa (w.heap.size + 1) o3
      have hl3 : (Wa.putObj (w.heap.size + 1) o3).heap[w.heap.size + 1]? = some o3 := World.putObj_heap_same (lt_of hl2)
      have hk3 : (Wa.putObj (w.heap.size + 1) o3).heap[w.heap.size]? = some (.deferred (some [])) := (World.putObj_heap_other (by omega)).trans hk2
      have hbx3 : (Wa.putObj (w.heap.size + 1) o3).heap[W2.heap.size]? = some (boxE x.1 x.2) := (World.putObj_heap_other (by omega)).trans hbx
      have ht3 := hta.turn hu (by omega) nfl (by omega) ntl
      have hmine : Mine (Wa.putObj (w.heap.size + 1) o3) F1 O1 t (w.heap.size + 1) w.heap.size := ⟨fun b hb => by
        have h1 := (hown1 b ((k2 b).2 (.inl hb))).1
        have h2 := hBa.size
        have h3 := hu.size
        omega, fun b hb => (hown1 b ((k2 b).2 (.inl hb))).2.1, fun b hb => (hown1 b ((k2 b).2 (.inl hb))).2.2, k3⟩
      have hk4 := hKI pre Wa (Wa.putObj (w.heap.size + 1) o3) O1 hka hu.size (fun b hb => World.putObj_heap_other (k3 b hb).1)
      refine wpIn_mono (hbody _ (w.heap.size + 1) w.heap.size pre x W2.heap.size _ F1 N1 O1 hpre ht3 hmine hk4 hbx3 hO1n hBn (by omega) (by omega) rfl rfl (lt_of hl3)) ?_
      rintro e a3 W3 ⟨rfl, ht, O2, hm2, hk5, hrest⟩
      have hl4 := (hrest _ _ hl3 (fun ho => (k3 _ ho).1 rfl)).1
      have hk6 := (hrest _ _ hk3 (fun ho => (k3 _ ho).2 rfl)).1
      rw [← ho3] at hl4
      have hr := run_endRound (P := Tryz.prog) none hl4
      have hu4 := upd_putObj W3 (w.heap.size + 1) (.loop { ({ rec .ready none with state := .busy } : Loop) with state := if (none : Option Code).isNone then .ready else .done, pending := none })
      refine ⟨_, _, hr, .inl ⟨rfl, fun b => O2 b ∨ b = w.heap.size + 1 ∨ b = w.heap.size, ⟨ht.turn hu4 (by omega) nfl (by omega) ntl, fun b hb => ?_, O2, ?_, fun b => Iff.rfl, hm2.loop, ?_, (World.putObj_heap_other (by omega)).trans hk6⟩, fun b o hb hf ho => ?_⟩⟩
      · rcases hb with hb | rfl | rfl
        · exact ⟨Nat.lt_of_lt_of_le (hm2.lt b hb) (upd_putObj _ _ _).size, hm2.out b hb, hm2.tree b hb⟩
        · exact ⟨Nat.lt_of_lt_of_le (lt_of hl4) (upd_putObj _ _ _).size, nfl, ntl⟩
        · exact ⟨Nat.lt_of_lt_of_le (lt_of hk6) (upd_putObj _ _ _).size, nfd, ntd⟩
      · exact hKI _ W3 _ O2 hk5 hu4.size (fun b hb => World.putObj_heap_other (hm2.loop b hb).1)
      · rw [World.putObj_heap_same (lt_of hl4), hrec]; rfl
      · have hne1 : b ≠ w.heap.size + 1 := fun e => ho ((k2 b).2 (.inr (.inl e)))
        have hne2 : b ≠ w.heap.size := fun e => ho ((k2 b).2 (.inr (.inr e)))
        have hno : ¬ O1 b := fun h => ho ((k2 b).2 (.inl h))
        have p1 := (hBa.block b (lt_of hb)).trans hb
        have p2 := (World.putObj_heap_other (w := Wa) (o := o3) hne1).trans p1
        obtain ⟨p3, p4⟩ := hrest b o p2 hno
        exact ⟨(World.putObj_heap_other hne1).trans p3, hf, fun h => by
          rcases h with h | h | h
          · exact p4 h
          · exact hne1 h
          · exact hne2 h⟩
    · rintro b hb hf
      rcases hb with hb | rfl | rfl
      · exact hm0.out b hb hf
      · exact hF0 _ (by omega) hf
      · exact hF0 _ (by omega) hf
    · intro b hb
      by_cases ho : OO b
      · rcases ho with ho | rfl | rfl
        · exact .inr ⟨O0, hk0, ho⟩
        · omega
        · omega
      · exact .inl ho
    · rintro e W2 ⟨⟨v, rfl⟩, F1, O1, hj⟩
      obtain ⟨O2, k1, k2, k3, hl, hk⟩ := hj.has
      have hob := fun b hb => hj.own b hb
      obtain ⟨-, nfl, ntl⟩ := hob (w.heap.size + 1) ((k2 _).2 (.inr (.inl rfl)))
      refine ⟨none, _, by have := run_endLoop (P := Tryz.prog) hl (by rw [hrec]; simp); rw [hrec] at this; exact this, ?_⟩
      have hll := lt_of hl
      refine hdone w.heap.size _ F1 O2 rfl (hj.tin.turn (upd_putObj W2 (w.heap.size + 1) _) (by omega) nfl (by omega) ntl) ⟨fun b hb => ?_, fun b hb => (hob b ((k2 b).2 (.inl hb))).2.1, fun b hb => (hob b ((k2 b).2 (.inl hb))).2.2, k3⟩ (hKI full W2 _ O2 k1 (upd_putObj W2 (w.heap.size + 1) _).size (fun b hb => World.putObj_heap_other (k3 b hb).1)) ((World.putObj_heap_other (by omega)).trans hk) (hob w.heap.size ((k2 _).2 (.inr (.inr rfl)))).2.1
      exact Nat.lt_of_lt_of_le (hob b ((k2 b).2 (.inl hb))).1 (upd_putObj _ _ _).size
end
end Go.Proofs.YtmgcaohpbaiiaaaGreatDoor
