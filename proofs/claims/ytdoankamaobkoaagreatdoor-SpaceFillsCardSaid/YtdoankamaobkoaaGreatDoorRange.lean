/- A range over a function whose rounds, and whose iterator, may themselves range over functions: a contract for iterators over pages, and the law of the statement (at the wide fence). -/
import Derived.Test.YtdoankamaobkoaaGreatDoorWrite
import Derived.RangeFuncNested
import Derived.RangeFuncBound
import Derived.RangeFuncCalls
import Derived.RangeFuncLeaves
set_option linter.unusedSimpArgs false
set_option linter.unusedVariables false
namespace Go.Proofs.YtdoankamaobkoaaGreatDoor
open Go.RowKit Go.Maps Go.Shelf

abbrev Pgs := List (Int × ByteArray)
def encP (x : Int × ByteArray) : Value := .agg #[.int .i64 x.1, .string x.2]
def boxP (x : Int × ByteArray) : Obj := .cells #[.int .i64 x.1, .string x.2] 112 (0, 0)

/-- An iterator over the pages 'full': it hands them to the rounds of loop l, one behind the other, until a round says no; what a round that goes on keeps is Kp l. -/
def Yields (gf : Nat) (lb : Array Value) (full : Pgs) (Kp : Nat → World → World → Prop) (w0 : World) : Prop :=
  ∀ (n l : Nat) (J Jx : Pgs → World → Prop) (W : World), Below w0.heap.size w0 W → w0.heap.size ≤ l → l < W.heap.size → (∃ r, W.heap[l]? = some (.loop r)) → OwnFrom W.heap.size J → OwnFrom W.heap.size Jx →
    (∀ pre x W1, pre ++ [x] <+: full → J pre W1 → YieldAt Fence.wide (n - 1) Tryz.prog l #[encP x] W1 fun e W' =>
      (e = .returned (.bool true) ∧ J (pre ++ [x]) W' ∧ Kp l W1 W') ∨ (e = .returned (.bool false) ∧ Jx (pre ++ [x]) W' ∧ Kp l W1 W')) →
    J [] W →
    CallsIn Fence.wide n Tryz.prog gf (#[.func (.yield l) #[] #[]] ++ lb) W fun e W' => (∃ v, e = .returned v) ∧ (J full W' ∨ ∃ pre, Jx pre W')

/-- how the body of a round may be left -/
def roundEnds (B l : Nat) (Kp : Nat → World → World → Prop) (I Ix : Pgs → World → Prop) (xs : Pgs) (W : World) : Exit → Act → World → Prop
  | .normal, _, W' => KeepsFrom B W W' ∧ Kp l W W' ∧ I xs W'
  | .ret, _, W' => KeepsFrom B W W' ∧ Kp l W W' ∧ Ix xs W'
  | _, _, _ => False

theorem range_pages {n : Nat} {g : Operand} {p : Tmp} {assign body : Code} {Q : Exit → Act → World → Prop} {a : Act} {w w0 : World} {gf : Nat} {lb : Array Value} {full : Pgs} {Kp : Nat → World → World → Prop}
    (hg : a.eval g = .func (.func gf) #[] lb) (eg : ∀ args w, (callFunc gf args).run Tryz.prog w = .ok (.enter gf args) w)
    (hseq : Yields gf lb full Kp w0) (hb0 : Below w0.heap.size w0 w)
    (hKt : ∀ {l : Nat} {A B C : World}, Kp l A B → Kp l B C → Kp l A C)
    (hKp : ∀ (l : Nat) (W : World) (r : Loop) (o' : Obj), W.heap[l]? = some (.loop r) → Kp l W (W.putObj l o'))
    (hKa : ∀ (l : Nat) (W : World) (o : Obj), Kp l W (W.alloc o))
    (I Ix : Pgs → World → Prop) (hI : OwnFrom w.heap.size I) (hIx : OwnFrom w.heap.size Ix) (h0 : I [] w) (q : Tmp)
    (hassign : ∀ (l : Nat) (x : Int × ByteArray) (W : World) (K : Act → World → Prop), K { tmps := (a.tmps.setIfInBounds p (encP x)).setIfInBounds q (.pointer (some ⟨W.heap.size, 0, none⟩)), defers := [] } (W.alloc (boxP x)) →
      assign.wpIn (Fence.wide.inRound l) (n - 1 - 1) Tryz.prog (Exit.then K (fun _ _ _ => False)) { tmps := a.tmps.setIfInBounds p (encP x), defers := [] } W)
    (hbody : ∀ (l : Nat) (pre : Pgs) (x : Int × ByteArray) (B : Nat) (W : World), w.heap.size ≤ l → (∃ r, W.heap[l]? = some (.loop r)) → pre ++ [x] <+: full → I pre W → W.heap[B]? = some (boxP x) → w.heap.size ≤ B →
      body.wpIn (Fence.wide.inRound l) (n - 1 - 1) Tryz.prog (roundEnds w.heap.size l Kp I Ix (pre ++ [x]) W) { tmps := (a.tmps.setIfInBounds p (encP x)).setIfInBounds q (.pointer (some ⟨B, 0, none⟩)), defers := [] } W)
    (hdone : ∀ (D : Nat) (W : World), w.heap.size ≤ D → I full W → W.heap[D]? = some (.deferred (some [])) → Q .normal { a with defers := { target := .collected D, args := #[] } :: a.defers } W)
    (hstop : ∀ (D : Nat) (pre : Pgs) (W : World), w.heap.size ≤ D → Ix pre W → W.heap[D]? = some (.deferred (some [])) → Code.ret.wpIn Fence.wide n Tryz.prog Q { a with defers := { target := .collected D, args := #[] } :: a.defers } W) :
    (Code.rangeFunc g #[p] assign body).wpIn Fence.wide n Tryz.prog Q a w := by
  refine wpIn_rangeFunc fun fn hfn => ?_
  obtain ⟨rec, hrec⟩ : ∃ rec : LoopState → Option Code → Loop, rec = fun st pe => { state := st, pending := pe, fn, tmps := a.tmps, params := #[p], assign, body, defers := w.heap.size } := ⟨_, rfl⟩
  obtain ⟨W1, hW1⟩ : ∃ W1, (w.alloc (.deferred (some []))).alloc (.loop (rec .ready none)) = W1 := ⟨_, rfl⟩
  have hs1 : W1.heap.size = w.heap.size + 2 := by rw [← hW1]; simp
  have hbw : Below w.heap.size w W1 := by rw [← hW1]; exact ((Below.refl _ w).alloc (Nat.le_refl _) _).alloc (by simp) _
  -- the two blocks of the loop's own
  let Bk : LoopState → Option Code → World → Prop := fun st pe W => W.heap[w.heap.size + 1]? = some (.loop (rec st pe)) ∧ W.heap[w.heap.size]? = some (.deferred (some []))
  have hB1 : Bk .ready none W1 := by
    refine ⟨?_, ?_⟩
    · rw [← hW1]; have := World.alloc_heap_new (w.alloc (.deferred (some []))) (.loop (rec .ready none)); rwa [World.size_alloc] at this
    · rw [← hW1]; exact (Below.heap_alloc _ _ _ (by simp)).trans (World.alloc_heap_new w _)
  have hBkO : ∀ st pe (A B : World) (row : Option Nat), Bk st pe A → A.grownBy B row → (∀ r, row = some r → W1.heap.size ≤ r ∧ ∃ o : Obj, A.heap[r]? = some o ∧ o.isCells = false) → Bk st pe B := by
    intro st pe A B row h hgr hr
    have e1 := lt_of h.1
    exact ⟨(hgr.block _ e1 (fun e => by have := (hr _ e.symm).1; omega)).trans h.1, (hgr.block _ (by omega) (fun e => by have := (hr _ e.symm).1; omega)).trans h.2⟩
  have hI1 : I [] W1 := by rw [← hW1]; exact hI.alloc _ (hI.alloc _ h0)
  refine ⟨w.heap.size + 1, [{ target := .collected w.heap.size, args := #[] }], W1, { target := .fn (.func gf) lb, args := #[.func (.yield (w.heap.size + 1)) #[] #[]] }, W1, gf,
    #[.func (.yield (w.heap.size + 1)) #[] #[]] ++ lb, W1, ?_, ?_, fun _ _ => trivial, ?_, fun h => by simp [Fence.wide] at h, ?_⟩
  · rw [← hW1, hrec]; exact run_enterLoop_outer _ _ _ _ _
  · simp only [resolve, hg]
    simp [go_sem]
  · simp [invoke, go_sem, eg]
  · have hlow : ∀ {A : World} {row : Option Nat}, (∀ r, row = some r → W1.heap.size ≤ r ∧ ∃ o : Obj, A.heap[r]? = some o ∧ o.isCells = false) → (∀ r, row = some r → w.heap.size ≤ r ∧ ∃ o : Obj, A.heap[r]? = some o ∧ o.isCells = false) :=
      fun hr r e => ⟨by have := (hr r e).1; omega, (hr r e).2⟩
    refine (hseq (n - 1) (w.heap.size + 1) (fun pre W => I pre W ∧ Bk .ready none W) (fun pre W => Ix pre W ∧ Bk .done (some .ret) W) W1
      (hb0.trans (hbw.mono hb0.size)) (by have := hb0.size; omega) (by omega) ⟨_, hB1.1⟩
      (fun s A B row hs hgr hr => ⟨hI s A B row hs.1 hgr (hlow hr), hBkO _ _ A B row hs.2 hgr hr⟩)
      (fun s A B row hs hgr hr => ⟨hIx s A B row hs.1 hgr (hlow hr), hBkO _ _ A B row hs.2 hgr hr⟩) ?_ ⟨hI1, hB1⟩).mono ?_
    · -- one round
      rintro pre x W hpre ⟨hi, hl, hk⟩
      have hlt := lt_of hl
      have hy := run_yield (P := Tryz.prog) (args := #[encP x]) hl (by rw [hrec]; rfl)
      have hy2 : (Instr.yield (w.heap.size + 1) #[encP x]).run Tryz.prog W = .ok (.round (w.heap.size + 1) fn (a.tmps.setIfInBounds p (encP x)) assign body) W := by rw [hy, hrec]; simp
      refine ⟨fn, _, assign, body, hy2, roundIn_of_wpIn hfn ?_⟩
      clear hy hy2
      refine hassign _ x W _ ?_
      have hsz : (W.alloc (boxP x)).heap.size = W.heap.size + 1 := by simp
      have hl2 : (W.alloc (boxP x)).heap[w.heap.size + 1]? = some (.loop (rec .ready none)) := (Below.heap_alloc W _ _ hlt).trans hl
      have hk2 : (W.alloc (boxP x)).heap[w.heap.size]? = some (.deferred (some [])) := (Below.heap_alloc W _ _ (by omega)).trans hk
      have hi2 : I pre (W.alloc (boxP x)) := hI.alloc _ hi
      have hbx : (W.alloc (boxP x)).heap[W.heap.size]? = some (boxP x) := heap_alloc_new' W _
      have hka := hKa (w.heap.size + 1) W (boxP x)
      have hBW : w.heap.size ≤ W.heap.size := by omega
      generalize W.alloc (boxP x) = Wa at *
      refine ⟨_, run_beginRound hl2 (by rw [hrec]), ?_⟩
      obtain ⟨o3, ho3⟩ : ∃ o3, Obj.loop { rec .ready none with state := .busy } = o3 := ⟨_, rfl⟩
      have hl3 : (Wa.putObj (w.heap.size + 1) o3).heap[w.heap.size + 1]? = some o3 := World.putObj_heap_same (lt_of hl2)
      have hk3 : (Wa.putObj (w.heap.size + 1) o3).heap[w.heap.size]? = some (.deferred (some [])) := (World.putObj_heap_other (by omega)).trans hk2
      have hbx3 : (Wa.putObj (w.heap.size + 1) o3).heap[W.heap.size]? = some (boxP x) := (World.putObj_heap_other (by omega)).trans hbx
      have hkp := hKp (w.heap.size + 1) Wa _ o3 hl2
      have hi3 : I pre (Wa.putObj (w.heap.size + 1) o3) := hI.putObj _ hi2 (by omega) hl2 rfl
      rw [ho3]
      refine wpIn_mono (hbody (w.heap.size + 1) pre x W.heap.size _ (by omega) ⟨_, by rw [hl3, ← ho3]⟩ hpre hi3 hbx3 hBW) ?_
      have fin : ∀ (jump : Option Code) (W3 : World), KeepsFrom w.heap.size (Wa.putObj (w.heap.size + 1) o3) W3 →
          ∃ o4, (Instr.endRound (w.heap.size + 1) jump).run Tryz.prog W3 = .ok (.bool jump.isNone) (W3.putObj (w.heap.size + 1) o4) ∧ o4 = .loop (rec (if jump.isNone then .ready else .done) jump) ∧
          (∃ r, W3.heap[w.heap.size + 1]? = some (.loop r)) ∧ W3.heap[w.heap.size]? = some (.deferred (some [])) := fun jump W3 hk3' => by
        have h4 := hk3'.same _ _ (by omega) hl3 (by rw [← ho3]; rfl)
        rw [← ho3] at h4
        have := run_endRound (P := Tryz.prog) jump h4
        exact ⟨_, this, by rw [hrec], ⟨_, h4⟩, hk3'.same _ _ (Nat.le_refl _) hk3 rfl⟩
      rintro e a3 W3 hp
      cases e with
      | normal =>
        obtain ⟨hkf, hkp3, hi4⟩ := hp
        obtain ⟨o4, hr, ho4, ⟨r4, hl4⟩, hk4⟩ := fin none W3 hkf
        refine ⟨_, _, hr, .inl ⟨rfl, ⟨hI.putObj _ hi4 (by omega) hl4 rfl, ?_, (World.putObj_heap_other (by omega)).trans hk4⟩, hKt hka (hKt hkp (hKt hkp3 (hKp _ _ _ _ hl4)))⟩⟩
        rw [World.putObj_heap_same (lt_of hl4), ho4]; rfl
      | ret =>
        obtain ⟨hkf, hkp3, hi4⟩ := hp
        obtain ⟨o4, hr, ho4, ⟨r4, hl4⟩, hk4⟩ := fin (some .ret) W3 hkf
        refine ⟨_, _, hr, .inr ⟨rfl, ⟨hIx.putObj _ hi4 (by omega) hl4 rfl, ?_, (World.putObj_heap_other (by omega)).trans hk4⟩, hKt hka (hKt hkp (hKt hkp3 (hKp _ _ _ _ hl4)))⟩⟩
        rw [World.putObj_heap_same (lt_of hl4), ho4]; rfl
      | exit id => exact hp.elim
      | goto t => exact hp.elim
      | panic ch => exact hp.elim
      | outgrown => exact hp.elim
    · -- behind the iterator
      rintro e W2 ⟨⟨v, rfl⟩, ⟨hi, hl, hk⟩ | ⟨pre, hi, hl, hk⟩⟩
      · exact ⟨none, _, by have := run_endLoop (P := Tryz.prog) hl (by rw [hrec]; simp); rw [hrec] at this; exact this, hdone _ _ (Nat.le_refl _) (hI.putObj _ hi (by omega) hl rfl) ((World.putObj_heap_other (by omega)).trans hk)⟩
      · exact ⟨some .ret, _, by have := run_endLoop (P := Tryz.prog) hl (by rw [hrec]; simp); rw [hrec] at this; exact this, hstop _ pre _ (Nat.le_refl _) (hIx.putObj _ hi (by omega) hl rfl) ((World.putObj_heap_other (by omega)).trans hk)⟩
/-- a round at the wide fence, from wherever yield is called -/
theorem round_any {n n' l l' : Nat} {f : FuncId} {tmps : Array Value} {assign body : Code} {w : World} {R : Ending → World → Prop} (h : RoundIn Fence.wide n Tryz.prog l f tmps assign body w R) :
    RoundIn (Fence.wide.inRound l') n' Tryz.prog l f tmps assign body w R := ⟨trivial, fun c cs _ => h.2 c cs (room_wide _)⟩
end Go.Proofs.YtdoankamaobkoaaGreatDoor
