/- pager.hold: a page is held, if there is room. -/
import Derived.Test.YtdoankamaobkoaaGreatDoorOld
set_option linter.unusedSimpArgs false
set_option linter.unusedVariables false
namespace Go.Proofs.YtdoankamaobkoaaGreatDoor
open Go.RowKit Go.Maps

/-- what is held once there is room -/
def Pgr.holdIn (S : Pgr) (l : List (Int × Pg)) (i : Int) (s : ByteArray) : Pgr := { S with clock := S.clock + 1, held := ins i ⟨s, 0, S.clock + 1⟩ l }

/-- behind 'hold' the pager is at L', whose blocks are L's and new ones; the page that was handed back is the one held -/
structure Held (w w' : World) (L : PLoc) (S : Pgr) (S' : Pgr) (L' : PLoc) : Prop where
  at_ : PagerAt w' L' S'
  p : L'.p = L.p
  d : L'.d = L.d
  fp : ∀ b, L'.fp S' b → L.fp S b ∨ (w.heap.size ≤ b ∧ b < w'.heap.size)
  upd : Upd (L.fp S) w w'

theorem PagerAt.drewN {w : World} {L : PLoc} {S : Pgr} (h : PagerAt w L S) (n : Nat) : PagerAt (w.drewN n) L S := h.keep fun _ _ => rfl

/-- a new page, held and used: the pager behind it -/
theorem Held.new {w wx w1 w2 : World} {L : PLoc} {S : Pgr} {l : List (Int × Pg)} {i : Int} {s : ByteArray} (hX : PagerAt wx L { S with held := l }) (hsub : ∀ q ∈ l, q ∈ S.held) (hU : Upd (L.fp S) w wx) (hi : get i l = none) (hs : Srt l)
    (ht : Turn (wx.alloc (.cells #[.string s, .int .i64 0, .int .i64 0] 132 (0, 0))) w1 L.h)
    (h2 : PagerAt w2 { L with blk := fun k => if k = i then wx.heap.size else L.blk k } (Pgr.use { S with held := ins i ⟨s, 0, 0⟩ l } i ⟨s, 0, 0⟩))
    (hu : Upd (PLoc.fp { L with blk := fun k => if k = i then wx.heap.size else L.blk k } { S with held := ins i ⟨s, 0, 0⟩ l }) w1 w2) :
    Held w w2 L S (S.holdIn l i s) { L with blk := fun k => if k = i then wx.heap.size else L.blk k } := by
  have e : Pgr.use { S with held := ins i ⟨s, 0, 0⟩ l } i ⟨s, 0, 0⟩ = S.holdIn l i s := by simp [Pgr.use, Pgr.holdIn, ins_ins]
  rw [e] at h2
  have hw1 : w1.heap.size = wx.heap.size + 1 := by rw [ht.size]; simp
  have hw2 := hu.size
  have hwx := hU.size
  have fpx : ∀ (y : Pg) (b : Nat), PLoc.fp { L with blk := fun k => if k = i then wx.heap.size else L.blk k } { S with held := ins i y l } b → L.fp S b ∨ b = wx.heap.size := by
    intro y b hb
    rcases hb with h | h | h | h | h | h | ⟨q, hq, h⟩
    · exact .inl (.inl h)
    · exact .inl (.inr (.inl h))
    · exact .inl (.inr (.inr (.inl h)))
    · exact .inl (.inr (.inr (.inr (.inl h))))
    · exact .inl (.inr (.inr (.inr (.inr (.inl h)))))
    · exact .inl (.inr (.inr (.inr (.inr (.inr (.inl h))))))
    · rcases mem_ins hq with rfl | hq
      · exact .inr (by simpa using h)
      · have hne := get_none hi q hq
        simp only [if_neg hne] at h
        exact .inl (.inr (.inr (.inr (.inr (.inr (.inr ⟨q, hsub q hq, h⟩))))))
  refine ⟨h2, rfl, rfl, fun b hb => ?_, ?_⟩
  · rcases fpx _ b hb with h | h
    · exact .inl h
    · exact .inr (by omega)
  · have h1 : Upd (L.fp S) w w1 := (hU.alloc _).turn ht fun _ => .inr (.inr (.inr (.inl rfl)))
    refine h1.then hu fun b hb hf => ?_
    rcases fpx _ b hf with h | h
    · exact h
    · omega

set_option maxRecDepth 100000 in
set_option maxHeartbeats 1000000 in
theorem hold_room {w : World} {L : PLoc} {S : Pgr} (h : PagerAt w L S) (hok : S.Ok) (i : Int) (s : ByteArray) (hi : get i S.held = none) (hpg : isPage S.disk.n i = true)
    (hroom : S.full = false) (hc : S.clock < 4611686018427387904) :
    Calls Tryz.prog 73 #[.pointer (some ⟨L.p, 0, none⟩), .int .i64 i, .string s] w fun e w' =>
      ∃ L', e = .returned (.pointer (some ⟨L'.blk i, 0, none⟩)) ∧ Held w w' L S (S.holdIn S.held i s) L' := by
  have c1 := cell_of h.p 1
  have c2 := cell_of h.p 2
  simp at c1 c2
  have hpl := lt_of h.p
  have c2' : ∀ n o, ((w.drewN n).alloc o).cell? ⟨L.p, 2, none⟩ = some (.map (some L.h)) := fun n o => (World.cell?_of_block (Below.heap_alloc (w.drewN n) o L.p hpl)).trans c2
  have hlen := fun n => (h.held.congr (w' := w.drewN n) rfl).len Tryz.underlying107 3
  rw [heldV_eq, mapV_length] at hlen
  have hfull : (S.held.length : Int) < S.room := by simpa [Pgr.full] using hroom
  have hwf := Lib.hid (wf_small (i := i) (by have := isPage_bd hpg; omega))
  have HN := Lib.hid hok.len
  have hr := hok.room
  have H := Lib.hid h
  have HOK := Lib.hid hok
  have HI := Lib.hid hi
  have HC := Lib.hid hc
  clear h hok hroom hpg hi hc
  generalize hR : S.room = R at *
  have HR := Lib.hid hR
  clear hR
  generalize hln : S.held.length = ln at *
  have HLN := Lib.hid hln
  clear hln
  go_enter Tryz.func73, Tryz.ntmps73
  go_wp2
  go_quiet (fail)
  obtain ⟨w1, hput, hM1, hT1⟩ := MapV.put (w := (w.drewN nq).alloc (.cells #[.string s, .int .i64 0, .int .i64 0] 132)) (l := heldV L.blk S.held) (b := L.h) (k := i)
    ((H.out.drewN nq).held.congr (Below.heap_alloc _ _ _ H.out.held.lt)) Tryz.underlying107 (by rw [heldV_eq, mapV_length, HLN.out]; have := HN.out; unfold maxLen; omega) hwf.out (.pointer (some ⟨w.heap.size, 0, none⟩))
  have H1 := Lib.hid ((H.out.drewN nq).newPage (i := i) (s := s) HI.out rfl hT1 hM1)
  have HT := Lib.hid hT1
  have hcell := hT1.cell
  clear hM1 hT1
  go_wp2_with (go_at_call 85; have hu := use_at H1.out (srt_ins HOK.out.srt) (i := i) (x := ⟨s, 0, 0⟩) get_ins_same ⟨HOK.out.clock, HC.out⟩; simp only [if_true] at hu; refine hu.mono ?_; rintro e w2 ⟨rfl, hP2, hU2⟩; have HP2 := Lib.hid hP2; have HU2 := Lib.hid hU2; clear hP2 hU2 hu)
  go_ret
  exact ⟨_, by simp, Held.new (H.out.drewN nq) (fun _ h => h) ((Upd.refl _ w).drewN nq) HI.out HOK.out.srt HT.out HP2.out HU2.out⟩

theorem oldest_mem {l : List (Int × Pg)} {o : Int} (h : oldest l = some o) : ∃ x, (o, x) ∈ l ∧ x.pins = 0 := by
  unfold oldest at h
  rcases older_spec l none (by simp) with ⟨h1, _, _⟩ | ⟨q, h1, h2, h3, _, _⟩
  · rw [h1] at h; simp at h
  · rw [h1] at h
    simp at h
    rcases h2 with h2 | h2
    · simp at h2
    · exact ⟨q.2, by rw [← h]; exact h2, h3⟩

theorem below_pager {w w' : World} {L : PLoc} {S : Pgr} (hB : Below w.heap.size w w') (h : PagerAt w L S) : PagerAt w' L S := h.keep fun b hb => hB.block b (h.fp_lt hb)

set_option maxRecDepth 100000 in
set_option maxHeartbeats 1000000 in
theorem hold_none {w : World} {L : PLoc} {S : Pgr} (h : PagerAt w L S) (hok : S.Ok) (i : Int) (s : ByteArray)
    (hroom : S.full = true) (ho : oldest S.held = none) :
    Calls Tryz.prog 73 #[.pointer (some ⟨L.p, 0, none⟩), .int .i64 i, .string s] w fun e w' =>
      e = .returned (.pointer none) ∧ Below w.heap.size w w' := by
  have c1 := cell_of h.p 1
  have c2 := cell_of h.p 2
  simp at c1 c2
  have hlen := fun n => (h.held.congr (w' := w.drewN n) rfl).len Tryz.underlying107 3
  rw [heldV_eq, mapV_length] at hlen
  have hfull : S.room ≤ (S.held.length : Int) := by simpa [Pgr.full] using hroom
  have hO := fun n => oldest_at (h.drewN n) hok
  rw [show oldN S.held = -1 from by unfold oldN; rw [ho]] at hO
  have hr := hok.room
  have HN := Lib.hid hok.len
  clear h hok hroom ho
  generalize S.room = R at *
  generalize S.held.length = ln at *
  go_enter Tryz.func73, Tryz.ntmps73
  go_wp2
  go_quiet (fail)
  go_wp2_with (go_at_call 99; refine (hO nq).mono ?_; rintro e w1 ⟨rfl, hB⟩)
  go_ret
  exact ⟨rfl, ⟨hB.os, hB.tape, hB.output, hB.size, hB.block⟩⟩

set_option maxRecDepth 100000 in
set_option maxHeartbeats 1000000 in
theorem hold_full {w : World} {L : PLoc} {S : Pgr} (h : PagerAt w L S) (hok : S.Ok) (i : Int) (s : ByteArray) (hi : get i S.held = none) (hpg : isPage S.disk.n i = true)
    (hroom : S.full = true) (o : Int) (ho : oldest S.held = some o) (hc : S.clock < 4611686018427387904) :
    Calls Tryz.prog 73 #[.pointer (some ⟨L.p, 0, none⟩), .int .i64 i, .string s] w fun e w' =>
      ∃ L', e = .returned (.pointer (some ⟨L'.blk i, 0, none⟩)) ∧ Held w w' L S (S.holdIn (del o S.held) i s) L' := by
  have c1 := cell_of h.p 1
  have c2 := cell_of h.p 2
  simp at c1 c2
  have hpl := lt_of h.p
  have hlen := fun n => (h.held.congr (w' := w.drewN n) rfl).len Tryz.underlying107 3
  rw [heldV_eq, mapV_length] at hlen
  have hfull : S.room ≤ (S.held.length : Int) := by simpa [Pgr.full] using hroom
  have hO := fun n => oldest_at (h.drewN n) hok
  obtain ⟨xo, hmo, _⟩ := oldest_mem ho
  have hobd := isPage_bd (hok.held _ hmo).1
  simp only at hobd
  rw [show oldN S.held = o from by unfold oldN; rw [ho]] at hO
  have ho0 : 0 ≤ o := hobd.1
  have hwo := Lib.hid (wf_small (i := o) (by omega))
  have hwf := Lib.hid (wf_small (i := i) (by have := isPage_bd hpg; omega))
  have HI := Lib.hid (show get i (del o S.held) = none by
    by_cases e : i = o
    · rw [e]; exact get_del_same
    · rw [get_del_other e]; exact hi)
  have HSD := Lib.hid (srt_del (k := o) hok.srt)
  have hsub : ∀ q ∈ del o S.held, q ∈ S.held := fun q hq => (List.mem_filter.1 hq).1
  have HLE := Lib.hid (show (del o S.held).length ≤ 1024 by
    have h1 := hok.len; have h2 := hok.room.2; have h3 := del_length_le (k := o) (l := S.held); omega)
  have hr := hok.room
  have HN := Lib.hid hok.len
  have H := Lib.hid h
  have HOK := Lib.hid hok
  have HSUB := Lib.hid hsub
  have HC := Lib.hid hc
  clear h hok hroom hpg hi hc ho hmo hobd hsub
  generalize hR : S.room = R at *
  have HR := Lib.hid hR
  clear hR
  generalize hln : S.held.length = ln at *
  have HLN := Lib.hid hln
  clear hln
  go_enter Tryz.func73, Tryz.ntmps73
  go_wp2
  go_quiet (fail)
  go_wp2_with fail
  refine (hO nq).mono ?_
  rintro e w1 ⟨rfl, hB⟩
  have H1 := Lib.hid (below_pager hB (H.out.drewN nq))
  have hpl1 : L.p < w1.heap.size := lt_of H1.out.p
  have d2 : w1.cell? ⟨L.p, 2, none⟩ = some (.map (some L.h)) := by rw [cell_of H1.out.p 2]; rfl
  obtain ⟨w2, hdel, hM2, hT2⟩ := H1.out.held.drop (k := o) Tryz.underlying107 hwo.out 0
  rw [heldV_eq, ← mapV_del, ← heldV_eq] at hM2
  have H2 := Lib.hid (H1.out.turnHeld hM2 hT2 HSUB.out)
  have hcell2 := hT2.cell
  have e2 : ∀ o, (w2.alloc o).cell? ⟨L.p, 2, none⟩ = some (.map (some L.h)) := fun o =>
    (World.cell?_of_block (Below.heap_alloc w2 o L.p (lt_of H2.out.p))).trans (by rw [cell_of H2.out.p 2]; rfl)
  obtain ⟨w3, hput, hM3, hT3⟩ := MapV.put (w := w2.alloc (.cells #[.string s, .int .i64 0, .int .i64 0] 132)) (l := heldV L.blk (del o S.held)) (b := L.h) (k := i)
    (H2.out.held.congr (Below.heap_alloc _ _ _ H2.out.held.lt)) Tryz.underlying107 (by rw [heldV_eq, mapV_length]; have := HLE.out; unfold maxLen; omega) hwf.out (.pointer (some ⟨w2.heap.size, 0, none⟩))
  have H3 := Lib.hid (H2.out.newPage (i := i) (s := s) HI.out rfl hT3 hM3)
  have HT3 := Lib.hid hT3
  have HU2 := Lib.hid ((Upd.below (F := L.fp S) hB (fun x hx hle => absurd hx (Nat.not_lt.2 hle))).turn hT2 (fun _ => .inr (.inr (.inr (.inl rfl)))))
  have hcell3 := hT3.cell
  clear hM2 hT2 hM3 hT3 hB
  go_wp2_with fail
  have hu := use_at H3.out (srt_ins HSD.out) (i := i) (x := ⟨s, 0, 0⟩) get_ins_same ⟨HOK.out.clock, HC.out⟩
  simp only [if_true] at hu
  refine hu.mono ?_
  rintro e w4 ⟨rfl, hP4, hU4⟩
  have HP4 := Lib.hid hP4
  have HU4 := Lib.hid hU4
  clear hP4 hU4 hu
  go_wp2
  go_ret
  exact ⟨_, by simp, Held.new H2.out HSUB.out ⟨HU2.out.os, HU2.out.tape, HU2.out.output, HU2.out.size, HU2.out.block⟩ HI.out HSD.out HT3.out HP4.out HU4.out⟩
end Go.Proofs.YtdoankamaobkoaaGreatDoor
