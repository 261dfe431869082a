/- journal.write: what an iterator tells is written, up to the first error. -/
import Derived.Test.YtdoankamaobkoaaGreatDoorJour
set_option linter.unusedSimpArgs false
set_option linter.unusedVariables false
namespace Go.Proofs.YtdoankamaobkoaaGreatDoor
open Go.RowKit Go.Maps Go.Shelf

attribute [local go_sem] Oper.semAt_some wide_room wide_fn wide_room_in wide_fn_in

def Dsk.writes : Dsk → Pgs → Int × Dsk
  | S, [] => (0, S)
  | S, p :: r => if (S.write p.1 p.2).1 ≠ 0 then S.write p.1 p.2 else (S.write p.1 p.2).2.writes r
theorem Dsk.writes_snoc (p : Int × ByteArray) : ∀ (l : Pgs) (S : Dsk), (S.writes l).1 = 0 → S.writes (l ++ [p]) = (S.writes l).2.write p.1 p.2
  | [], S, _ => by
    simp only [List.nil_append, Dsk.writes]
    split
    · rfl
    · rename_i h; have h : (S.write p.1 p.2).1 = 0 := by simpa using h
      rw [← h]
  | q :: r, S, h => by
    simp only [List.cons_append, Dsk.writes] at h ⊢
    split
    · rename_i h'; rw [if_pos h'] at h; exact absurd h h'
    · rename_i h'; rw [if_neg h'] at h; exact Dsk.writes_snoc p r _ h
theorem Dsk.writes_stop : ∀ (l r : Pgs) (S : Dsk), (S.writes l).1 ≠ 0 → S.writes (l ++ r) = S.writes l
  | [], r, S, h => by simp [Dsk.writes] at h
  | q :: l, r, S, h => by
    simp only [List.cons_append, Dsk.writes] at h ⊢
    split
    · rfl
    · rename_i h'; rw [if_neg h'] at h; exact Dsk.writes_stop l r _ h
theorem Dsk.write_log (S : Dsk) (i : Int) (s : ByteArray) : (S.write i s).2.log.length ≤ S.log.length + 1 := by
  unfold Dsk.write
  split
  · simp
  · split
    · simp
    · split
      · simp
      · simp
theorem Dsk.write_left (S : Dsk) (i : Int) (s : ByteArray) (h : S.told = true → 0 ≤ S.left ∧ S.left < 9223372036854775808) : (S.write i s).2.told = true → 0 ≤ (S.write i s).2.left ∧ (S.write i s).2.left < 9223372036854775808 := by
  unfold Dsk.write
  split
  · exact h
  · split
    · exact h
    · split
      · exact h
      · rename_i hn
        intro ht
        simp only at ht ⊢
        have := h ht
        rw [if_pos ht]
        have : S.left ≠ 0 := fun e => hn ⟨ht, e⟩
        omega
theorem Dsk.writes_log : ∀ (l : Pgs) (S : Dsk), (S.writes l).2.log.length ≤ S.log.length + l.length
  | [], S => by simp [Dsk.writes]
  | q :: l, S => by
    have h1 := S.write_log q.1 q.2
    simp only [Dsk.writes]
    split
    · simp; omega
    · have := Dsk.writes_log l (S.write q.1 q.2).2
      simp; omega
theorem Dsk.writes_left : ∀ (l : Pgs) (S : Dsk), (S.told = true → 0 ≤ S.left ∧ S.left < 9223372036854775808) → (S.writes l).2.told = true → 0 ≤ (S.writes l).2.left ∧ (S.writes l).2.left < 9223372036854775808
  | [], S, h => h
  | q :: l, S, h => by
    have h1 := S.write_left q.1 q.2 h
    simp only [Dsk.writes]
    split
    · exact h1
    · exact Dsk.writes_left l _ h1

theorem DStp.own {β : Type} {d bb B : Nat} {lg : Value} {w : World} (hB : w.heap.size ≤ B) (f : β → Dsk) : OwnFrom B (fun (s : β) W => ∃ lg', DStp d bb lg lg' w W (f s)) := by
  intro s W W' row hs hg hr
  obtain ⟨lg', hat, hup, hlg⟩ := hs
  refine ⟨lg', hat.keep fun b cs T f hb _ _ => hg.block b (lt_of hb) (fun e => ?_), ⟨hg.os.trans hup.os, hg.tape.trans hup.tape, hg.output.trans hup.output, Nat.le_trans hup.size hg.size, fun b hb hn => (hg.block b (Nat.lt_of_lt_of_le hb hup.size) (fun e => ?_)).trans (hup.block b hb hn)⟩, hlg⟩
  · obtain ⟨_, o', ho', hn⟩ := hr b e.symm
    rw [hb] at ho'; simp at ho'; subst ho'; simp [Obj.isCells] at hn
  · have := (hr b e.symm).1; omega
theorem DStp.then {d bb : Nat} {lg lg1 lg2 : Value} {w w1 w2 : World} {S1 S2 : Dsk} (h : DStp d bb lg lg1 w w1 S1) (k : DStp d bb lg1 lg2 w1 w2 S2) : DStp d bb lg lg2 w w2 S2 := by
  refine ⟨k.at_, h.upd.then k.upd (fun x hx hd => ?_), fun b hb => ?_⟩
  · rcases hd with h' | h' | h'
    · exact .inl h'
    · exact .inr (.inl h')
    · rcases h.log x h' with h2 | h2
      · exact .inr (.inr h2)
      · omega
  · rcases k.log b hb with h' | h'
    · exact h.log b h'
    · exact .inr (Nat.le_trans h.upd.size h')
theorem DStp.made {d bb : Nat} {lg lg1 : Value} {w w1 w2 : World} {S1 : Dsk} (h : DStp d bb lg lg1 w w1 S1) (hB : Below w1.heap.size w1 w2) : DStp d bb lg lg1 w w2 S1 :=
  ⟨h.at_.below hB, h.upd.then (Upd.below hB (F := fun b => w1.heap.size ≤ b) (fun x hx hle => hle)) (fun x hx hle => by have := h.upd.size; omega), h.log⟩

theorem boxed_ne {W : World} {d bb : Nat} {lg : Value} {S : Dsk} (hD : DiskAt W d bb lg S) {b : Nat} {v : Value} {T : TypeId} (hb : Boxed W b T v) (h1 : T ≠ 83) (h2 : T ≠ 9) (h3 : T ≠ 112) : ¬ dfp d bb lg b := by
  intro hd
  obtain ⟨cs, T', hb', hT⟩ := hD.fp_cells hd
  rw [show W.heap[b]? = _ from hb] at hb'
  simp at hb'
  obtain ⟨_, rfl⟩ := hb'
  rcases hT with h | h | h
  · exact h1 h
  · exact h2 h
  · exact h3 h
theorem DiskAt.set {W : World} {d bb : Nat} {lg : Value} {S : Dsk} (hD : DiskAt W d bb lg S) {b : Nat} (hb : ¬ dfp d bb lg b) (i : Nat) (v : Value) : DiskAt (W.setCell ⟨b, i, none⟩ v) d bb lg S :=
  hD.keep fun b' _ _ _ _ _ hd => Below.heap_setCell _ _ _ _ (fun e => hb (by rw [← show b' = b from e]; exact hd))
theorem KD.set {W : World} {d bb b : Nat} {X : Nat → Prop} (hX : X b) (hn : ∀ lg S, DiskAt W d bb lg S → ¬ dfp d bb lg b) (i : Nat) (v : Value) : KD d bb X W (W.setCell ⟨b, i, none⟩ v) := fun lg S hS =>
  ⟨lg, S, hS.set (hn lg S hS) i v, by simp, fun b' o hb' _ hx => (Below.heap_setCell _ _ _ _ (fun e => hx (by rw [show b' = b from e]; exact hX))).trans hb', fun b' hb' => .inl hb'⟩
theorem DStp.set {d bb b : Nat} {lg lg1 : Value} {w W : World} {S1 : Dsk} (h : DStp d bb lg lg1 w W S1) (hb : ¬ dfp d bb lg1 b) (hge : w.heap.size ≤ b) (i : Nat) (v : Value) : DStp d bb lg lg1 w (W.setCell ⟨b, i, none⟩ v) S1 :=
  ⟨h.at_.set hb i v, h.upd.setCell _ (fun hlt => by have : b < w.heap.size := hlt; omega) _, h.log⟩
theorem results_one {fn : Func} {p : Tmp} {ty : TypeId} (h : fn.results = #[.cell p ty]) {P : Program} {k : TypeDesc} (hu : P.underlying ty = some k) (hk : (match k with | .struct _ | .array _ _ => true | _ => false) = false) (tmps : Array Value) (w : World) (g : Nat) (v : Value)
    (hp : tmps.getD p undef = .pointer (some ⟨g, 0, none⟩)) (hc : w.cell? ⟨g, 0, none⟩ = some v) : (results fn tmps).run P w = .ok v w := by
  have hp' : tmps[p]?.getD undef = .pointer (some ⟨g, 0, none⟩) := by simpa using hp
  simp only [results, h]
  cases k <;> simp_all [asAddr, loadVar, isAgg, run_underlying hu]

set_option maxRecDepth 100000 in
set_option maxHeartbeats 4000000 in
theorem jwrite_any {w : World} {d bb : Nat} {lg : Value} {S : Dsk} (h : DiskAt w d bb lg S) (hleft : S.told = true → 0 ≤ S.left ∧ S.left < 9223372036854775808) {gf : Nat} {lb : Array Value} {fn : Func} (full : Pgs) (hlog : S.log.length + full.length < 1000000000000) (hsz : ∀ q ∈ full, q.2.size ≤ 140737488355328)
    (eg : ∀ args w, (callFunc gf args).run Tryz.prog w = .ok (.enter gf args) w) (hseq : ∀ w', Below w.heap.size w w' → w.heap.size + 2 ≤ w'.heap.size → Yields gf lb full (fun l => KD d bb (fun b => b = l ∨ b = w.heap.size + 1)) w') :
    Calls Tryz.prog 82 #[.pointer (some ⟨d, 0, none⟩), .func (.func gf) #[] lb] w fun e w' => e = .returned (.int .i64 (S.writes full).1) ∧ ∃ lg', DStp d bb lg lg' w w' (S.writes full).2 := by
  have hD0 : DStp d bb lg lg w w S := ⟨h, Upd.refl _ _, fun b hb => .inl hb⟩
  refine (callsIn_wide (n := 9)).1 ?_
  refine callsIn_of_wp_marks Tryz.func82 rfl trivial ?_ rfl
  simp only [Tryz.ntmps82, List.size_toArray, List.length_cons, List.length_nil, Nat.reduceAdd, Nat.reduceSub, Array.replicate_succ, Array.replicate_zero, List.push_toArray, List.append_toArray, List.nil_append, List.cons_append]
  gi_wp2
  have hw2 : ((w.alloc (.cells #[.pointer (some ⟨d, 0, none⟩)] 29)).alloc (.cells #[.int .i64 0] 27)).heap.size = w.heap.size + 2 := by simp
  have hbel : Below w.heap.size w ((w.alloc (.cells #[.pointer (some ⟨d, 0, none⟩)] 29)).alloc (.cells #[.int .i64 0] 27)) := ((Below.refl _ w).alloc (Nat.le_refl _) _).alloc (by simp) _
  have bx2 : Boxed ((w.alloc (.cells #[.pointer (some ⟨d, 0, none⟩)] 29)).alloc (.cells #[.int .i64 0] 27)) w.heap.size 29 (.pointer (some ⟨d, 0, none⟩)) := (Boxed.new w _ _).alloc _
  have bx4 : Boxed ((w.alloc (.cells #[.pointer (some ⟨d, 0, none⟩)] 29)).alloc (.cells #[.int .i64 0] 27)) (w.heap.size + 1) 27 (.int .i64 0) := by
    have := Boxed.new (w.alloc (.cells #[.pointer (some ⟨d, 0, none⟩)] 29)) 27 (.int .i64 0)
    rwa [World.size_alloc] at this
  generalize hw1 : (w.alloc (.cells #[.pointer (some ⟨d, 0, none⟩)] 29)).alloc (.cells #[.int .i64 0] 27) = w1 at *
  clear hw1
  refine range_pages (w0 := w1) (gf := gf) (lb := lb) rfl eg (hseq w1 hbel (by omega)) (Below.refl _ _) (fun h k => h.trans k) (fun l W r o' h => KD.loop o' h (.inl rfl)) (fun l W o => KD.alloc W o)
    (fun pre W' => (S.writes pre).1 = 0 ∧ (∃ lg', DStp d bb lg lg' w W' (S.writes pre).2) ∧ Boxed W' w.heap.size 29 (.pointer (some ⟨d, 0, none⟩)) ∧ Boxed W' (w.heap.size + 1) 27 (.int .i64 0))
    (fun pre W' => (S.writes pre).1 ≠ 0 ∧ pre <+: full ∧ (∃ lg', DStp d bb lg lg' w W' (S.writes pre).2) ∧ Boxed W' (w.heap.size + 1) 27 (.int .i64 (S.writes pre).1))
    (OwnFrom.and (ownFrom_pure _ _) (OwnFrom.and (DStp.own (by omega) (fun pre => (S.writes pre).2)) (OwnFrom.and (Own.from (boxed_own _ _ _) _) (Own.from (boxed_own _ _ _) _))))
    (OwnFrom.and (ownFrom_pure _ _) (OwnFrom.and (ownFrom_pure _ _) (OwnFrom.and (DStp.own (by omega) (fun pre => (S.writes pre).2)) (Own.from (boxed_own _ _ (fun pre => .int .i64 (S.writes pre).1)) _))))
    ⟨rfl, ⟨lg, hD0.made hbel⟩, bx2, bx4⟩ 5 ?assign ?body ?done ?stop
  case assign =>
    intro l x W' K hK
    unfold encP boxP at hK
    unfold encP
    gi_wp2
    exact hK
  case body =>
    rintro l pre x B W hl hr hpre ⟨hz, ⟨lg1, hD1⟩, hb2, hb4⟩ hbox hBB
    have hlen : pre.length + 1 ≤ full.length := by have := hpre.length_le; simpa using this
    have hfit : ((S.writes pre).2).Fit := ⟨Dsk.writes_left pre S hleft, by have := Dsk.writes_log pre S; omega⟩
    have hxm : x ∈ full := hpre.subset (by simp)
    have hwr := write_any hD1.at_ hfit x.1 x.2 (hsz x hxm)
    have hsn := Dsk.writes_snoc x pre S hz
    rw [← hsn] at hwr
    have c0 := cell_of hbox 0
    have c1 := cell_of hbox 1
    simp at c0 c1
    have cd := hb2.cell
    have hn2 := boxed_ne hD1.at_ hb2 (by decide) (by decide) (by decide)
    have hn4 := boxed_ne hD1.at_ hb4 (by decide) (by decide) (by decide)
    have HB2 : Hid (∀ lg2 W3, DStp d bb lg1 lg2 W W3 (S.writes (pre ++ [x])).2 → Boxed W3 w.heap.size 29 (.pointer (some ⟨d, 0, none⟩)) ∧ Boxed W3 (w.heap.size + 1) 27 (.int .i64 0) ∧ KD d bb (fun b => b = l ∨ b = w.heap.size + 1) W W3 ∧ KeepsFrom w1.heap.size W W3 ∧ DStp d bb lg lg2 w W3 (S.writes (pre ++ [x])).2) := by
      intro lg2 W3 hst
      have hkd := KD.stp (X := fun b => b = l ∨ b = w.heap.size + 1) hD1.at_ hst
      refine ⟨(hst.upd.block _ hb2.lt hn2).trans hb2, (hst.upd.block _ hb4.lt hn4).trans hb4, hkd, ?_, hD1.then hst⟩
      refine ⟨hst.upd.size, fun b o hB hb ho => (hst.upd.block b (lt_of hb) (fun hd => ?_)).trans hb⟩
      obtain ⟨cs, T', hb', _⟩ := hD1.at_.fp_cells hd
      rw [hb] at hb'; simp at hb'; subst hb'; simp [Obj.isCells] at ho
    unfold encP
    clear hD1 hfit hxm hsn hn2 hn4 hb2 hb4 hbox
    generalize x.1 = y at *
    generalize x.2 = sx at *
    by_cases he : (S.writes (pre ++ [x])).1 = 0
    · rw [he] at hwr
      gi_wp2
      refine (CallsIn.inRound l (callsIn_wide.2 hwr)).mono ?_
      rintro e W3 ⟨lg2, rfl, hst⟩
      obtain ⟨h2, h4, hkd, hkf, hst2⟩ := HB2.out lg2 W3 hst
      clear hst hwr HB2
      gi_wp2
      exact ⟨hkf, hkd, he, ⟨lg2, hst2⟩, h2, h4⟩
    · have heb : ((S.writes (pre ++ [x])).1 != 0) = true := by simpa using he
      obtain ⟨c, HC⟩ : ∃ c, Hid ((S.writes (pre ++ [x])).1 = c) := ⟨_, Lib.hid rfl⟩
      rw [HC.out] at hwr heb he
      gi_wp2
      refine (CallsIn.inRound l (callsIn_wide.2 hwr)).mono ?_
      rintro e W3 ⟨lg2, rfl, hst⟩
      obtain ⟨h2, h4, hkd, hkf, hst2⟩ := HB2.out lg2 W3 hst
      have c4 := h4.cell
      have f4 := h4.frozen
      have hsz4 := h4.lt
      clear hst hwr HB2
      gi_wp2
      refine ⟨hkf.trans ((KeepsOthers.setCell _ _ _).from _), hkd.trans ?_, by rw [HC.out]; exact he, hpre, ?_, ?_⟩
      · exact KD.set (.inr rfl) (fun lg' S' hS' => boxed_ne hS' h4 (by decide) (by decide) (by decide)) 0 _
      · exact ⟨lg2, hst2.set (boxed_ne hst2.at_ h4 (by decide) (by decide) (by decide)) (by omega) 0 _⟩
      · rw [HC.out]; exact h4.set _
  case done =>
    rintro D W hD ⟨hz, ⟨lg1, hD1⟩, hb2, hb4⟩ hK
    have c4 := hb4.cell
    have f4 := hb4.frozen
    have hn4 := boxed_ne hD1.at_ hb4 (by decide) (by decide) (by decide)
    have hD2 := hD1.set hn4 (by omega) 0 (.int .i64 0)
    have hb5 := hb4.set (.int .i64 0)
    have hK2 : (W.setCell ⟨w.heap.size + 1, 0, none⟩ (.int .i64 0)).heap[D]? = some (.deferred (some [])) := (KeepsOthers.setCell W _ _).same _ _ hK rfl
    have hD3 := (DStp.own (β := Unit) (B := w1.heap.size) (by omega) (fun _ => (S.writes full).2)).putObj (s := ()) (.deferred none) ⟨lg1, hD2⟩ hD hK2 rfl
    have hc5 := cell_kept hb5.cell (grownBy_putObj' _ D (.deferred none)) (fun r e => by cases e; exact ⟨_, hK2, rfl⟩)
    gi_wp2
    refine ⟨by simp, .inl ⟨_, _, rfl, run_takeDeferred hK2, ?_⟩⟩
    exact ⟨_, results_one rfl Tryz.underlying27 rfl _ _ _ _ rfl hc5, by rw [hz], hD3⟩
  case stop =>
    rintro D pre W hD ⟨hz, ⟨r, hr⟩, hDs, hb4⟩ hK
    have hst := Dsk.writes_stop pre r S hz
    rw [hr] at hst
    have hD3 := (DStp.own (β := Unit) (B := w1.heap.size) (by omega) (fun _ => (S.writes pre).2)).putObj (s := ()) (.deferred none) hDs hD hK rfl
    have hc5 := cell_kept hb4.cell (grownBy_putObj' _ D (.deferred none)) (fun r e => by cases e; exact ⟨_, hK, rfl⟩)
    gi_wp2
    refine ⟨by simp, .inl ⟨_, _, rfl, run_takeDeferred hK, ?_⟩⟩
    exact ⟨_, results_one rfl Tryz.underlying27 rfl _ _ _ _ rfl hc5, by rw [hst], by rw [hst]; exact hD3⟩
end Go.Proofs.YtdoankamaobkoaaGreatDoor
