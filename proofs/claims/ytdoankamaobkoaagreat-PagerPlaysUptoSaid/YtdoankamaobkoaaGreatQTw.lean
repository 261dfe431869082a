/- The pager and the reference's, side by side. -/
import Derived.Test.YtdoankamaobkoaaGreatQNew
set_option linter.unusedSimpArgs false
set_option linter.unusedVariables false
namespace Go.Proofs.YtdoankamaobkoaaGreat
open Go.RowKit Go.Maps Go.Shelf

/-! ### counts -/
structure Bnd (S : Pgr) (K : Int) : Prop where
  clock : S.clock ≤ K
  reads : S.reads ≤ K
  pins : ∀ q ∈ S.held, q.2.pins ≤ K
  log : (S.disk.log.length : Int) ≤ K
  left : S.disk.told = true → 0 ≤ S.disk.left ∧ S.disk.left < 9223372036854775808
section
variable {S : Pgr} {K M i : Int}
theorem Bnd.mono (h : Bnd S K) (hle : K ≤ M) : Bnd S M := ⟨by have := h.clock; omega, by have := h.reads; omega, fun q hq => by have := h.pins q hq; omega, by have := h.log; omega, h.left⟩
theorem Bnd.use (h : Bnd S K) {y : Pg} (hp : y.pins ≤ K + 1) : Bnd (S.use i y) (K + 1) := by
  have h1 := h.clock
  have h2 := h.reads
  have h3 := h.log
  refine ⟨by simp [Pgr.use]; omega, by simp [Pgr.use]; omega, fun q hq => ?_, by simp [Pgr.use]; omega, h.left⟩
  simp only [Pgr.use] at hq
  rcases mem_ins hq with rfl | hq
  · exact hp
  · have := h.pins q hq; omega
theorem Bnd.read (h : Bnd S K) : Bnd (S.read i).2 (K + 1) := by
  obtain ⟨r1, r2, r3, r4, r5, r6⟩ := read_held S i
  have h1 := h.clock
  have h2 := h.reads
  have h3 := h.log
  exact ⟨by omega, by omega, fun q hq => by rw [r1] at hq; have := h.pins q hq; omega, by rw [r4]; omega, by rw [r4]; exact h.left⟩
theorem Bnd.hold (h : Bnd S K) (h0 : 0 ≤ K) (s : ByteArray) : Bnd (S.hold i s) (K + 1) := by
  obtain ⟨k1, k2, k3, k4, k5⟩ := hold_rest (S := S) i s
  have h1 := h.clock
  have h2 := h.reads
  have h3 := h.log
  exact ⟨by omega, by omega, fun q hq => by have := hold_pins h.pins h0 i s q hq; omega, by rw [k2]; omega, by rw [k2]; exact h.left⟩
theorem Bnd.load (h : Bnd S K) (h0 : 0 ≤ K) : Bnd (S.load i).2 (K + 2) := by
  unfold Pgr.load
  split
  · exact h.mono (by omega)
  · split
    · exact h.mono (by omega)
    · split
      · rename_i x hx
        have := h.pins _ (get_mem hx)
        simp only at this
        exact (h.use (by omega)).mono (by omega)
      · split
        · exact h.mono (by omega)
        · exact (h.read.hold (by omega) _).mono (by omega)
theorem Bnd.store (h : Bnd S K) (s : ByteArray) : Bnd (S.store i s).2 K := by
  have hd : Bnd { S with held := del i S.held, changed := ins i s S.changed } K := ⟨h.clock, h.reads, fun q hq => h.pins q (List.mem_filter.1 hq).1, h.log, h.left⟩
  unfold Pgr.store
  split
  · exact h
  · split
    · exact h
    · split
      · split
        · exact h
        · exact hd
      · exact hd
theorem Bnd.pin (h : Bnd S K) (h0 : 0 ≤ K) : Bnd (S.pin i).2 (K + 3) := by
  unfold Pgr.pin
  split
  · exact h.mono (by omega)
  · split
    · exact h.mono (by omega)
    · split
      · rename_i x hx
        have := h.pins _ (get_mem hx)
        simp only at this
        exact (h.use (by simp only; omega)).mono (by omega)
      · split
        · exact h.mono (by omega)
        · split
          · exact h.mono (by omega)
          · exact ((h.read.hold (by omega) _).use (by simp only; omega)).mono (by omega)
theorem Bnd.unpin (h : Bnd S K) : Bnd (S.unpin i).2 K := by
  unfold Pgr.unpin
  split
  · exact h
  · rename_i x hx
    split
    · exact h
    · have := h.pins _ (get_mem hx)
      simp only at this
      refine ⟨h.clock, h.reads, fun q hq => ?_, h.log, h.left⟩
      rcases mem_ins hq with rfl | hq
      · show x.pins - 1 ≤ K; omega
      · exact h.pins q hq
theorem Bnd.undo (h : Bnd S K) : Bnd S.undo K := ⟨h.clock, h.reads, h.pins, h.log, h.left⟩
theorem Bnd.cut (h : Bnd S K) {n : Int} (hn : (Lit.int .i64 n).wf = true) : Bnd { S with disk := { S.disk with told := decide (0 ≤ n), left := n } } K := by
  refine ⟨h.clock, h.reads, h.pins, h.log, fun ht => ?_⟩
  simp only [decide_eq_true_eq] at ht
  simp [Lit.wf, show IntKind.i64.min = -9223372036854775808 from rfl, show IntKind.i64.max = 9223372036854775807 from rfl] at hn
  show 0 ≤ n ∧ n < 9223372036854775808
  omega
theorem Bnd.holds : ∀ (l : Pgs) {S : Pgr} {K : Int}, Bnd S K → 0 ≤ K → Bnd (S.holds l) (K + l.length)
  | [], S, K, h, _ => by simp [Pgr.holds]; exact h
  | p :: l, S, K, h, h0 => by
    have := Bnd.holds l (h.hold h0 (i := p.1) p.2) (by omega)
    exact this.mono (by simp; omega)
theorem Bnd.commit (h : Bnd S K) (h0 : 0 ≤ K) (hok : S.Ok) : Bnd S.commit.2 (K + 20000) := by
  have hl := commit_log S.disk S.changed
  have hc := hok.chg_len
  have hlf : (S.disk.commit S.changed).2.told = true → 0 ≤ (S.disk.commit S.changed).2.left ∧ (S.disk.commit S.changed).2.left < 9223372036854775808 := by
    unfold Dsk.commit
    split
    · exact h.left
    · split
      · exact h.left
      · exact Dsk.writes_left _ _ h.left
  have hlg := h.log
  unfold Pgr.commit
  split
  · exact ⟨by have := h.clock; simp only; omega, by have := h.reads; simp only; omega, fun q hq => by have := h.pins q hq; omega, by simp only; omega, hlf⟩
  · have hE : Bnd (S.emptied (S.disk.commit S.changed).2) (K + 15000) := ⟨by have := h.clock; simp only [Pgr.emptied]; omega, by have := h.reads; simp only [Pgr.emptied]; omega, fun q hq => by have := h.pins q hq; omega, by simp only [Pgr.emptied]; omega, hlf⟩
    exact (Bnd.holds S.changed hE (by omega)).mono (by omega)
end
/-! ### the disk's Cut, of the pager's disk -/
theorem diskAt_set {w : World} {d bb : Nat} {lg : Value} {D : Dsk} (h : DiskAt w d bb lg D) (i : Nat) (v : Value) (D' : Dsk) (hb : D'.blocks = D.blocks) (hl : D'.log = D.log)
    (hc : (#[.slice (some ⟨bb, 0, none⟩) D.blocks.length D.blocks.length, lg, .int .i64 D.left, .bool D.told, .bool D.down] : Array Value).setIfInBounds i v = #[.slice (some ⟨bb, 0, none⟩) D'.blocks.length D'.blocks.length, lg, .int .i64 D'.left, .bool D'.told, .bool D'.down]) :
    DiskAt (w.setCell ⟨d, i, none⟩ v) d bb lg D' := by
  have hset := heap_setCell_same h.d i v
  have hne : bb ≠ d := by intro e; have h1 := h.d; have h2 := h.bb; rw [← e, h2] at h1; simp at h1
  rw [hc] at hset
  refine ⟨hset, ?_, ?_⟩
  · rw [Below.heap_setCell _ _ _ _ (by exact hne), hb]; exact h.bb
  · rw [hl]; exact ownsRow_setCell_other h.lg (by exact (lg_ne h).1) _
def Dsk.cut (D : Dsk) (n : Int) : Dsk := { D with told := decide (0 ≤ n), left := n }
set_option maxHeartbeats 1000000 in
theorem cut_any {w : World} {d bb : Nat} {lg : Value} {D : Dsk} (h : DiskAt w d bb lg D) (n : Int) :
    Calls Tryz.prog 50 #[.pointer (some ⟨d, 0, none⟩), .int .i64 n] w fun e w' => e = .returned (.tuple #[]) ∧ DStp d bb lg lg w w' (D.cut n) := by
  have c2 := cell_of h.d 2
  have c3 := cell_of h.d 3
  have f2 := frozen_of h.d 2
  have f3 := frozen_of h.d 3
  simp at c2 c3
  have e3 : (w.setCell ⟨d, 3, none⟩ (.bool (decide (0 ≤ n)))).frozen? ⟨d, 2, none⟩ = false := frozen_of (heap_setCell_same h.d 3 _) 2
  have h3 := diskAt_set h 3 (.bool (decide (0 ≤ n))) { D with told := decide (0 ≤ n) } rfl rfl (by simp)
  have h2 := diskAt_set h3 2 (.int .i64 n) (D.cut n) rfl rfl (by simp [Dsk.cut])
  have HST : Hid (DStp d bb lg lg w ((w.setCell ⟨d, 3, none⟩ (.bool (decide (0 ≤ n)))).setCell ⟨d, 2, none⟩ (.int .i64 n)) (D.cut n)) :=
    ⟨h2, ((Upd.refl _ w).setCell _ (fun _ => .inl rfl) _).setCell _ (fun _ => .inl rfl) _, fun b hb => .inl hb⟩
  clear h h2 h3
  go_enter Tryz.func50, Tryz.ntmps50
  go_wp2
  go_end0
  exact ⟨rfl, HST.out⟩
theorem cut_in {w0 w : World} {p d : Nat} {F : Nat → Prop} {S : Pgr} (h : PIn w0 w p d F S) (n : Int) :
    Calls Tryz.prog 50 #[.pointer (some ⟨d, 0, none⟩), .int .i64 n] w fun e w' => e = .returned (.tuple #[]) ∧ PIn w0 w' p d (ext F w w') { S with disk := S.disk.cut n } ∧ Upd F w w' := by
  have hp := h.pat
  obtain ⟨L, rfl, rfl, hA, hF, hok⟩ := hp
  refine (cut_any hA.disk n).mono fun e w' ⟨he, hs⟩ => ?_
  have hst : Stp F w w' L.p L.d { S with disk := S.disk.cut n } := Stp.of hF (Held.disk hA hs) (disk_ok hok ⟨rfl, id⟩)
  exact ⟨he, h.stp hst, hst.upd⟩
theorem PIn.away {w0 w w' : World} {p d : Nat} {F G : Nat → Prop} {S : Pgr} (h : PIn w0 w p d F S) (hu : Upd G w w') (hG : ∀ b, G b → w0.heap.size ≤ b) (ha : ∀ b, F b → ¬ G b) : PIn w0 w' p d F S := by
  obtain ⟨⟨L, hp, hd, hA, hF, hok⟩, hn, hB⟩ := h
  refine ⟨⟨L, hp, hd, hA.keep fun b hb => hu.block b (hA.fp_lt hb) (ha b (hF b hb)), hF, hok⟩, hn, hB.trans (hu.toBelow hB.size fun x hx hf => by have := hG x hf; omega)⟩
theorem PIn.lt {w0 w : World} {p d : Nat} {F : Nat → Prop} {S : Pgr} (h : PIn w0 w p d F S) : PIn w0 w p d (fun b => F b ∧ b < w.heap.size) S := ⟨h.pat.lt, fun b hb => h.new b hb.1, h.below⟩
/-- the pager (S) and the reference's (T, in the order L), apart; and a block that neither has -/
structure Tb (w0 w : World) (p d r x : Nat) (F G : Nat → Prop) (S T : Pgr) (L : List (Int × Pg)) (q : Nat) (o : Obj) : Prop where
  pin : PIn w0 w p d F S
  rat : RAt w r x G T L
  ord : Ord T L
  newG : ∀ b, G b → w0.heap.size ≤ b
  fl : ∀ b, F b → b < w.heap.size
  gl : ∀ b, G b → b < w.heap.size
  ap : ∀ b, F b → ¬ G b
  bx : w.heap[q]? = some o
  nf : ¬ F q
  ng : ¬ G q
section
variable {w0 w w' : World} {p d r x q : Nat} {F G : Nat → Prop} {S S' T T' : Pgr} {L L' : List (Int × Pg)} {o : Obj}
theorem Tb.pager (h : Tb w0 w p d r x F G S T L q o) (k : PIn w0 w' p d (ext F w w') S') (hu : Upd F w w') : Tb w0 w' p d r x (ext F w w') G S' T L q o := by
  have hs := hu.size
  have hq := lt_of h.bx
  refine ⟨k, h.rat.upd hu fun b hb hf => h.ap b hf hb, h.ord, h.newG, fun b hb => ?_, fun b hb => by have := h.gl b hb; omega, fun b hb hg => ?_, (hu.block q hq h.nf).trans h.bx, fun hb => ?_, h.ng⟩
  · rcases hb with hb | hb
    · have := h.fl b hb; omega
    · exact hb.2
  · rcases hb with hb | hb
    · exact h.ap b hb hg
    · have := h.gl b hg; omega
  · rcases hb with hb | hb
    · exact h.nf hb
    · omega
theorem Tb.ref (h : Tb w0 w p d r x F G S T L q o) (k : RStp w w' r x G T' L') (ho : Ord T' L') : Tb w0 w' p d r x F (ext G w w') S T' L' q o := by
  have hs := k.upd.size
  have hq := lt_of h.bx
  have hb0 := h.pin.below.size
  refine ⟨h.pin.away k.upd h.newG h.ap, k.at_, ho, fun b hb => ?_, fun b hb => by have := h.fl b hb; omega, fun b hb => ?_, fun b hb hg => ?_, (k.upd.block q hq h.ng).trans h.bx, h.nf, fun hb => ?_⟩
  · rcases hb with hb | hb
    · exact h.newG b hb
    · omega
  · rcases hb with hb | hb
    · have := h.gl b hb; omega
    · exact hb.2
  · rcases hg with hg | hg
    · exact h.ap b hb hg
    · have := h.fl b hb; omega
  · rcases hb with hb | hb
    · exact h.ng hb
    · omega
theorem Tb.made (h : Tb w0 w p d r x F G S T L q o) (hB : Below w.heap.size w w') : Tb w0 w' p d r x F G S T L q o := by
  have hs := hB.size
  exact ⟨h.pin.made hB, h.rat.made hB, h.ord, h.newG, fun b hb => by have := h.fl b hb; omega, fun b hb => by have := h.gl b hb; omega, h.ap, (hB.block q (lt_of h.bx)).trans h.bx, h.nf, h.ng⟩
end
end Go.Proofs.YtdoankamaobkoaaGreat
