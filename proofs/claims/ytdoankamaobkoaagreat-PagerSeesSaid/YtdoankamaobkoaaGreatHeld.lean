/- pager.Held: the held pages' numbers, the one used longest ago first. -/
import Derived.Test.YtdoankamaobkoaaGreatKeys
set_option linter.unusedSimpArgs false
set_option linter.unusedVariables false
namespace Go.Proofs.YtdoankamaobkoaaGreat
open Go.RowKit Go.Maps Go.Shelf

theorem drewN_drewN (w : World) (a b : Nat) : (w.drewN a).drewN b = w.drewN (a + b) := World.drewN_drewN w a b

set_option maxRecDepth 100000 in
set_option maxHeartbeats 1000000 in
/-- the comparison that Held sorts by -/
theorem heldcmp_at {w : World} {L : PLoc} {S : Pgr} (h : PagerAt w L S) (hok : S.Ok) (bx : Nat) (hbx : w.cell? ⟨bx, 0, none⟩ = some (.pointer (some ⟨L.p, 0, none⟩))) (a b : Int) (xa xb : Pg)
    (ha : get a S.held = some xa) (hb : get b S.held = some xb) (hc : S.clock < 4611686018427387904) :
    Calls Tryz.prog 44 #[.int .i64 a, .int .i64 b, .pointer (some ⟨bx, 0, none⟩)] w fun e w' => e = .returned (.int .i64 (xa.used - xb.used)) ∧ ∃ n, w' = w.drewN n := by
  have c2 := cell_of h.p 2
  simp at c2
  have ba := isPage_bd (hok.held _ (get_mem ha)).1
  have bb := isPage_bd (hok.held _ (get_mem hb)).1
  simp only at ba bb
  have hla : ∀ n, (Instr.lookup 68 (.map (some L.h)) (.int .i64 a) false).run Tryz.prog (w.drewN n) = .ok (.pointer (some ⟨L.blk a, 0, none⟩)) (w.drewN n) := fun n => by
    have := (h.drewN n).held.look (k := a) Tryz.underlying68 (zero_page _) (wf_small (by omega))
    rw [heldV_eq, mapV_get, ha] at this
    exact this
  have hlb : ∀ n, (Instr.lookup 68 (.map (some L.h)) (.int .i64 b) false).run Tryz.prog (w.drewN n) = .ok (.pointer (some ⟨L.blk b, 0, none⟩)) (w.drewN n) := fun n => by
    have := (h.drewN n).held.look (k := b) Tryz.underlying68 (zero_page _) (wf_small (by omega))
    rw [heldV_eq, mapV_get, hb] at this
    exact this
  have a2 := cell_of (h.page _ (get_mem ha)) 2
  have b2 := cell_of (h.page _ (get_mem hb)) 2
  simp at a2 b2
  have ua := (hok.held _ (get_mem ha)).2.2
  have ub := (hok.held _ (get_mem hb)).2.2
  simp only at ua ub
  obtain ⟨ua1, ua2, _⟩ := ua
  obtain ⟨ub1, ub2, _⟩ := ub
  clear h hok ha hb ba bb
  generalize S.clock = ck at *
  generalize xa.used = va at *
  generalize xb.used = vb at *
  have hw : IntKind.i64.wrap (va - vb) = va - vb := IntWalk.i64_in _ (by omega)
  go_enter Tryz.func44, Tryz.ntmps44
  go_wp2
  go_quiet (fail)
  go_wp2
  go_ret
  exact ⟨rfl, nq, rfl⟩
/-! the sort by uses -/
abbrev HKey (S : Pgr) := { k : Int // (get k S.held).isSome = true }
def usedOf (S : Pgr) (k : Int) : Int := match get k S.held with | some x => x.used | none => 0
abbrev encK (S : Pgr) (k : HKey S) : Value := .int .i64 k.1
def cmpK (S : Pgr) (a b : HKey S) : Int := usedOf S a.1 - usedOf S b.1

theorem swoK (S : Pgr) : Sort.SWO (ltOf (cmpK S)) :=
  ⟨fun x => decide_eq_false (by unfold cmpK; omega),
   fun x y z h1 h2 => by
    have h1 := of_decide_eq_true h1
    have h2 := of_decide_eq_true h2
    exact decide_eq_true (by unfold cmpK at *; omega),
   fun x y z h1 h2 => by
    have h1 := of_decide_eq_false h1
    have h2 := of_decide_eq_false h2
    exact decide_eq_false (by unfold cmpK at *; omega)⟩

theorem leK (S : Pgr) (x y : HKey S) : (!(ltOf (cmpK S)) y x) = true ↔ usedOf S x.1 ≤ usedOf S y.1 := by
  unfold ltOf cmpK
  rw [Bool.not_eq_true', decide_eq_false_iff_not]
  omega
theorem sortedK {S : Pgr} (hok : S.Ok) {ds : List (HKey S)} (hnd : (ds.map (·.1)).Nodup) {ms : List (HKey S)} (hms : ms = ds.mergeSort fun x y => !(ltOf (cmpK S)) y x) :
    (ms.map (·.1)).Perm (ds.map (·.1)) ∧ (ms.map (·.1)).Pairwise (fun a b => usedOf S a < usedOf S b) := by
  have hperm : ms.Perm ds := by rw [hms]; exact List.mergeSort_perm _ _
  refine ⟨hperm.map _, List.pairwise_map.2 ?_⟩
  have h1 : ms.Pairwise (fun x y => (!(ltOf (cmpK S)) y x) = true) := by
    rw [hms]
    refine List.pairwise_mergeSort (le := fun x y => !(ltOf (cmpK S)) y x) (fun a b c h1 h2 => ?_) (fun a b => ?_) ds
    · rw [leK] at *; omega
    · rw [Bool.or_eq_true, leK, leK]; omega
  have hnd2 : (ms.map (·.1)).Nodup := ((hperm.map (·.1)).nodup_iff).2 hnd
  have h2 : ms.Pairwise (fun x y => x.1 ≠ y.1) := List.pairwise_map.1 hnd2
  refine (h1.and h2).imp ?_
  intro x y ⟨h1, h2⟩
  rw [leK] at h1
  have h3 : usedOf S x.1 ≠ usedOf S y.1 := fun e => h2 (by
    obtain ⟨x, hx⟩ := x
    obtain ⟨y, hy⟩ := y
    obtain ⟨xa, ha⟩ := Option.isSome_iff_exists.1 hx
    obtain ⟨xb, hb⟩ := Option.isSome_iff_exists.1 hy
    unfold usedOf at e
    simp only [ha, hb] at e
    exact hok.used _ (get_mem ha) _ (get_mem hb) e)
  omega

theorem putRow_sub {p : Int → Prop} [Inhabited { k // p k }] (w : World) (blk off : Nat) (d : Array { k // p k }) :
    Sort.putRow (fun k : { k // p k } => Value.int .i64 k.1) w blk off d = Sort.putRow encZ w blk off (d.map (·.1)) := by
  refine Sort.mapBlock_congr _ _ _ _ fun c e fr _ => ?_
  unfold Sort.putCells
  apply Array.ext_getElem?
  intro k
  simp only [Array.getElem?_mapIdx, Array.size_map]
  congr 1
  funext x
  split
  · rename_i hk
    have h1 : k - off < d.size := by omega
    simp [h1]
  · rfl

theorem grownBy_sortWorld {α : Type} [Inhabited α] {enc : α → Value} {w : World} {g n : Nat} {os : Array Obj} (d : Array α) : w.grownBy (sortWorld enc w g 0 n d os) (some g) := by
  refine ⟨rfl, rfl, rfl, by simp [sortWorld], fun k hk hne => ?_⟩
  unfold sortWorld
  rw [Sort.heap_grow_old _ _ (by simpa using hk)]
  have : g ≠ k := fun e => hne (by rw [e])
  simp [Sort.putRow, Sort.mapBlock, Sort.ahead, Array.getElem?_modify, this]

set_option maxRecDepth 100000 in
set_option maxHeartbeats 1000000 in
theorem sortedFunc_at {w : World} {L : PLoc} {S : Pgr} (h : PagerAt w L S) (hok : S.Ok) (km bx : Nat) (hkl : km < w.heap.size) (hkm : w.cell? ⟨km, 0, none⟩ = some (.map (some L.h)))
    (hbl : bx < w.heap.size) (hbx : w.cell? ⟨bx, 0, none⟩ = some (.pointer (some ⟨L.p, 0, none⟩))) (hc : S.clock < 4611686018427387904) :
    Calls Tryz.prog 42 #[.func (.func 69) #[] #[.pointer (some ⟨km, 0, none⟩)], .func (.func 44) #[] #[.pointer (some ⟨bx, 0, none⟩)]] w fun e w' =>
      ∃ (v : Value) (ks : List Int), e = .returned v ∧ ks.Perm (S.held.map (·.1)) ∧ ks.Pairwise (fun a b => usedOf S a < usedOf S b) ∧
      w'.ownsRow w.heap.size 3 1 v ks.length (ks.map encZ) ∧ (v = .slice none 0 0 ↔ ks = []) ∧ Below w.heap.size w w' := by
  have hown := h.held.own
  have hlen : S.held.length ≤ 1024 := by have := hok.len; have := hok.room; omega
  have hsz : Maps.size (DataW.map (encL (heldV L.blk S.held))) ≤ 1024 := by simp [Maps.size, encL, heldV]; exact hlen
  have hseq : SeqGives Fence.wide 2 Tryz.prog 69 #[.pointer (some ⟨km, 0, none⟩)] encZ (fun ss => ss.Perm (intKeys (.map (encL (heldV L.blk S.held))))) (Maps.size (DataW.map (encL (heldV L.blk S.held)))) w :=
    AnyZI.keys_gives (ρ := Tryz.keysP_ren) { Tryz.keysP with } Fence.wide _ trivial rfl (by omega) km L.h _ _ _ hkl hkm hown
  have cC := (callsIn_wide (n := 4)).1 (AnyZI.collect_in (ρ := Tryz.sortedI_ren) { Tryz.sortedI with } Fence.wide 4 trivial trivial rfl (by omega) 69 #[.pointer (some ⟨km, 0, none⟩)] trivial (enters_of Tryz.func69 (by kernel_rfl) rfl) _ _ (by unfold maxLen; omega) (by omega) _ hseq)
  change Calls Tryz.prog 65 _ _ _ at cC
  have H := Lib.hid h
  have HOK := Lib.hid hok
  have HBX := Lib.hid hbx
  have HLEN := Lib.hid hlen
  clear hseq hsz hown h hok hkm hkl hlen
  go_enter Tryz.func42, Tryz.ntmps42
  go_wp2_with fail
  refine cC.mono ?_
  rintro e w1 ⟨v, ss, rfl, hS, hrow0, hnil, hB⟩
  have hrow : w1.ownsRow w.heap.size 3 1 v ss.length (ss.map encZ) := hrow0
  clear hrow0
  rw [intKeys_enc] at hS
  have hS' : ss.Perm (S.held.map (·.1)) := by unfold heldV at hS; rw [List.map_map] at hS; exact hS
  have HS := Lib.hid hS'
  have HB := Lib.hid hB
  have HRow := Lib.hid hrow
  have HP1 := Lib.hid (below_pager hB H.out)
  have HBX1 := Lib.hid ((hB.cell (p := ⟨bx, 0, none⟩) hbl).trans HBX.out)
  rcases hrow.2 with ⟨rfl, hz⟩ | ⟨g, cap, cur, rfl, hbase, hgb, r1, r2, r3, r4⟩
  · have hss : ss = [] := List.eq_nil_of_length_eq_zero hz
    subst hss
    clear hrow hnil hB hS hS' hz cC
    have cN := Tryz.slices_SortFunc_none (α := Nat) none 0 (.func (.func 44) #[] #[.pointer (some ⟨bx, 0, none⟩)]) w1
    go_wp2_with fail
    refine cN.mono ?_
    rintro e w2 ⟨rfl, rfl⟩
    go_wp2
    go_ret
    exact ⟨_, [], rfl, HS.out, by simp, by simpa using HRow.out, by simp, HB.out⟩
  · have hgl : g < w1.heap.size := lt_of hgb
    have hmem : ∀ x ∈ ss, (get x S.held).isSome = true := fun x hx => by
      obtain ⟨q, hq, rfl⟩ := List.mem_map.1 (hS'.mem_iff.1 hx)
      rw [mem_get HOK.out.srt hq]; rfl
    by_cases hne : ss = []
    · -- an empty slice in memory: not what Collect hands back
      exact absurd (hnil.2 hne) (by simp)
    · obtain ⟨x0, hx0⟩ := List.exists_mem_of_ne_nil ss hne
      letI : Inhabited (HKey S) := ⟨⟨x0, hmem x0 hx0⟩⟩
      obtain ⟨ds, hds⟩ : ∃ ds : List (HKey S), ds.map (·.1) = ss := ⟨ss.attach.map fun x => ⟨x.1, hmem x.1 x.2⟩, by simp⟩
      have hdl : ds.length = ss.length := by rw [← hds]; simp
      have hH : Sort.Holds (encK S) w1 g 0 ds.toArray := by
        have h1 := holds_of_block_i hgb (by simpa using r4)
        intro j hj
        have hj' : j < ds.length := by simpa using hj
        have := h1 j (by simpa [← hdl] using hj)
        rw [show (ss.toArray)[j]! = (ds.toArray[j]!).1 by subst hds; simp [hj']] at this
        exact this
      have hcmp : CmpLays1 Tryz.prog 44 #[.pointer (some ⟨bx, 0, none⟩)] (encK S) (cmpK S) g 0 ds.toArray.size w1 := by
        intro m os dk hs x y
        obtain ⟨x, hx⟩ := x
        obtain ⟨y, hy⟩ := y
        obtain ⟨xa, ha⟩ := Option.isSome_iff_exists.1 hx
        obtain ⟨xb, hb⟩ := Option.isSome_iff_exists.1 hy
        have hg := grownBy_sortWorld (enc := encK S) (w := w1) (g := g) (n := m) (os := os) dk
        have hlt : ∀ b, L.fp S b → b < g := fun b hb => Nat.lt_of_lt_of_le (H.out.fp_lt hb) hbase
        have hP2 : PagerAt (sortWorld (encK S) w1 g 0 m dk os) L S := HP1.out.keep fun b hb => hg.block b (HP1.out.fp_lt hb) (fun e => by injection e with e; have := hlt b hb; omega)
        have hb2 : (sortWorld (encK S) w1 g 0 m dk os).cell? ⟨bx, 0, none⟩ = some (.pointer (some ⟨L.p, 0, none⟩)) := hg.cell HBX1.out (fun e => by injection e with e; simp only at e; omega)
        refine (heldcmp_at hP2 HOK.out bx hb2 x y xa xb ha hb hc).mono ?_
        rintro e w' ⟨rfl, q, rfl⟩
        refine ⟨by simp [cmpK, usedOf, ha, hb], q, #[], ?_⟩
        rw [Sort.grow_empty]
      have cS := Tryz.slices_SortFunc_total (encK S) (fun _ => rfl) (cmpK S) (swoK S) 44 #[.pointer (some ⟨bx, 0, none⟩)] g 0 cap ds.toArray w1 (enters_of Tryz.func44 (by kernel_rfl) rfl) hcmp hH hgl
        (by simp; have := HLEN.out; have := hS'.length_eq; simp at this; omega)
        (fun x y h1 h2 => by
          obtain ⟨x, hx⟩ := x
          obtain ⟨y, hy⟩ := y
          obtain ⟨xa, ha⟩ := Option.isSome_iff_exists.1 hx
          obtain ⟨xb, hb⟩ := Option.isSome_iff_exists.1 hy
          simp [ltOf, cmpK, usedOf, ha, hb] at h1 h2
          have := HOK.out.used _ (get_mem ha) _ (get_mem hb) (by simp only; omega)
          simp only at this
          subst this; rfl)
      rw [show ds.toArray.size = ss.length by simp [hdl]] at cS
      have HDS := Lib.hid hds
      have HDL := Lib.hid hdl
      have HGB := Lib.hid hgb
      clear hrow hnil hB hS hS' hcmp hH cC hds hdl hne r4 HRow hgb
      go_wp2_with fail
      refine cS.mono ?_
      rintro e w2 ⟨rfl, n, os, rfl⟩
      clear cS
      go_wp2
      go_ret
      obtain ⟨ms, hms⟩ : ∃ ms : List (HKey S), ms = ds.mergeSort fun x y => !(ltOf (cmpK S)) y x := ⟨_, rfl⟩
      have hnd : (ds.map (·.1)).Nodup := by
        rw [HDS.out]
        refine (HS.out.nodup_iff).2 ?_
        have : (S.held.map (·.1)).Pairwise (fun x y => x < y) := by rw [List.pairwise_map]; exact HOK.out.srt
        exact this.imp (by intro a b h; omega)
      obtain ⟨hp, hpw⟩ := sortedK HOK.out hnd hms
      have hkl : (ms.map (·.1)).length = ss.length := by rw [hp.length_eq, HDS.out]
      generalize hks : ms.map (·.1) = ks at *
      refine ⟨_, ks, rfl, (hp.trans (by rw [HDS.out])).trans HS.out, hpw, ?_, ⟨fun e => by simp at e, fun e => ?_⟩, ?_⟩
      rotate_left
      · rw [e] at hkl
        have : ss = [] := List.eq_nil_of_length_eq_zero hkl.symm
        rw [this] at hx0; simp at hx0
      rotate_left
      · have hw : sortWorld (encK S) w1 g 0 n ms.toArray os = Sort.grow (Sort.putRow encZ (Sort.ahead w1 n) g 0 ks.toArray) os := by
          unfold sortWorld
          rw [show encK S = (fun k : HKey S => Value.int .i64 k.1) from rfl, putRow_sub]
          simp [← hks]
        rw [← hms, hw, hkl]
        exact ownsRow_sorted_i (by rw [hkl]) hbase HGB.out r1 r2 r3
      · rw [← hms]
        exact HB.out.grown (grownBy_sortWorld _) HB.out.size (fun j e => by injection e with e; rw [← e]; exact hbase)
theorem cell_new (w : World) (cs : Array Value) (T : TypeId) (i : Nat) : (w.alloc (.cells cs T)).cell? ⟨w.heap.size, i, none⟩ = cs[i]? := cell_of (heap_alloc_new' w _) i
theorem cell_old {w : World} (o : Obj) {b : Nat} (hb : b < w.heap.size) (i : Nat) : (w.alloc o).cell? ⟨b, i, none⟩ = w.cell? ⟨b, i, none⟩ := World.cell?_of_block (Below.heap_alloc w o b hb)

set_option maxRecDepth 100000 in
set_option maxHeartbeats 1000000 in
theorem held_at {w : World} {L : PLoc} {S : Pgr} (h : PagerAt w L S) (hok : S.Ok) (hc : S.clock < 4611686018427387904) :
    Calls Tryz.prog 21 #[.pointer (some ⟨L.p, 0, none⟩)] w fun e w' =>
      ∃ (v : Value) (ks : List Int), e = .returned v ∧ ks.Perm (S.held.map (·.1)) ∧ ks.Pairwise (fun a b => usedOf S a < usedOf S b) ∧
      w'.ownsRow w.heap.size 3 1 v ks.length (ks.map encZ) ∧ (v = .slice none 0 0 ↔ ks = []) ∧ Below w.heap.size w w' := by
  have hpl := lt_of h.p
  have c2 : ∀ o, (w.alloc o).cell? ⟨L.p, 2, none⟩ = some (.map (some L.h)) := fun o => by
    rw [World.cell?_of_block (Below.heap_alloc w o L.p hpl), cell_of h.p 2]; rfl
  have cK : ∀ mb W, Calls Tryz.prog 43 #[.map mb] W fun e w' => e = .returned (.func (.func 69) #[] #[.pointer (some ⟨W.heap.size, 0, none⟩)]) ∧ w' = W.alloc (.cells #[.map mb] 68) := fun mb W =>
    (callsIn_wide (n := 5)).1 (AnyZI.keys_in Tryz.keysP Fence.wide 5 trivial rfl mb W)
  have h2 : PagerAt ((w.alloc (.cells #[.pointer (some ⟨L.p, 0, none⟩)] 28)).alloc (.cells #[.map (some L.h)] 68)) L S :=
    h.keep fun b hb => (Below.heap_alloc _ _ b (by have := h.fp_lt hb; simp; omega)).trans (Below.heap_alloc _ _ b (h.fp_lt hb))
  have cS := sortedFunc_at h2 hok (w.heap.size + 1) w.heap.size (by simp) (by have := cell_new (w.alloc (.cells #[.pointer (some ⟨L.p, 0, none⟩)] 28)) #[.map (some L.h)] 68 0; rw [World.size_alloc] at this; exact this) (by simp; omega) (by rw [cell_old _ (by simp), cell_new]; rfl) hc
  clear h2 h
  go_enter Tryz.func21, Tryz.ntmps21
  go_wp2_with fail
  refine (cK _ _).mono ?_
  rintro e w1 ⟨rfl, rfl⟩
  go_wp2_with fail
  refine cS.mono ?_
  rintro e w2 ⟨v, ks, rfl, hp, hpw, hrow, hnil, hB⟩
  have HP := Lib.hid hp
  have HPW := Lib.hid hpw
  have HR := Lib.hid hrow
  have HN := Lib.hid hnil
  have HB := Lib.hid hB
  clear hp hpw hrow hnil hB cS
  go_wp2
  go_ret
  exact ⟨_, ks, rfl, HP.out, HPW.out, ownsRow_base_a HR.out (by simp; omega), HN.out, (((Below.refl _ w).alloc (Nat.le_refl _) _).alloc (by simp) _).trans (HB.out.mono (by simp; omega))⟩
end Go.Proofs.YtdoankamaobkoaaGreat
