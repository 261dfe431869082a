/- pager.Dirty and Held: the numbers of the changed pages, rising; of the held ones, by their uses. -/
import Derived.Test.YtdoankamaobkoaaGreatDoorPin
import Derived.Test.YtdoankamaobkoaaGreatDoorShelf
set_option linter.unusedSimpArgs false
set_option linter.unusedVariables false
namespace Go.Proofs.YtdoankamaobkoaaGreatDoor
open Go.RowKit Go.Maps Go.Sort Go.Shelf

theorem sortsI (m : Nat) : AnyZI.SortsIn Tryz.prog Tryz.sortedI_ren Fence.wide m :=
  ⟨fun blk off cap ss W hH hblk hsz => callsIn_wide.2 (AnyM.slices_Sort_int Tryz.sortI blk off cap ss W hH hblk hsz),
   fun p cap W => callsIn_wide.2 (AnyM.slices_Sort_int_none Tryz.sortI p cap W)⟩

theorem intKeys_enc : ∀ l : List (Int × Value), intKeys (.map (encL l)) = l.map (·.1) := by
  intro l
  show List.map (fun p => Go.intOf p.1) (List.map (fun p : Int × Value => (Lit.int .i64 p.1, DataW.held p.2)) l) = _
  rw [List.map_map]
  rfl

/-- the keys of a sorted list of pairs, in whatever order they come, sorted -/
theorem keys_sorted {α : Type} {l : List (Int × α)} (hs : Srt l) {ss : List Int} (hp : ss.Perm (l.map (·.1))) : ss.mergeSort (fun x y => decide (x ≤ y)) = l.map (·.1) := by
  have h1 : (ss.mergeSort (fun x y => decide (x ≤ y))).Pairwise (fun x y => x ≤ y) := by
    have := List.pairwise_mergeSort (le := fun x y : Int => decide (x ≤ y)) (by intro a b c; simp; omega) (by intro a b; simp; omega) ss
    exact this.imp (by simp)
  have h2 : (l.map (·.1)).Pairwise (fun x y => x ≤ y) := by
    rw [List.pairwise_map]; exact hs.imp (by intro a b h; omega)
  exact ((List.mergeSort_perm ss _).trans hp).eq_of_pairwise (fun a b _ _ h1 h2 => Int.le_antisymm h1 h2) h1 h2

set_option maxRecDepth 100000 in
set_option maxHeartbeats 1000000 in
theorem dirty_at {w : World} {L : PLoc} {S : Pgr} (h : PagerAt w L S) (hok : S.Ok) :
    Calls Tryz.prog 71 #[.pointer (some ⟨L.p, 0, none⟩)] w fun e w' => ∃ v : Value, e = .returned v ∧
      w'.ownsRow w.heap.size 3 1 v S.changed.length ((S.changed.map (·.1)).map encZ) ∧ (v = .slice none 0 0 ↔ S.changed = []) ∧ Below w.heap.size w w' := by
  refine (callsIn_wide (n := 6)).1 ?_
  have hown := h.changed.own
  have hlt := h.changed.lt
  have hlen := changed_length hok
  have c3 := cell_of h.p 3
  simp at c3
  have hsz : Maps.size (DataW.map (encL (changedV S.changed))) ≤ 8193 := by simp [Maps.size, encL, changedV]; exact hlen
  have hseq : SeqGives Fence.wide 2 Tryz.prog 118 #[.pointer (some ⟨w.heap.size, 0, none⟩)] encZ (fun ss => ss.Perm (intKeys (.map (encL (changedV S.changed))))) (Maps.size (DataW.map (encL (changedV S.changed)))) (w.alloc (.cells #[.map (some L.c)] 108)) :=
    AnyZI.keys_gives (ρ := Tryz.keysS_ren) { Tryz.keysS with } Fence.wide _ trivial rfl (by omega) w.heap.size L.c _ _ _ (by simp) (by simp) (by
      obtain ⟨es, clock, hb, Ft, hs, hD⟩ := hown
      exact ⟨es, clock, (Below.heap_alloc _ _ L.c hlt).trans hb, Ft, hs, hD⟩)
  have cK : ∀ mb W, CallsIn Fence.wide 5 Tryz.prog 96 #[.map mb] W fun e w' => e = .returned (.func (.func 118) #[] #[.pointer (some ⟨W.heap.size, 0, none⟩)]) ∧ w' = W.alloc (.cells #[.map mb] 108) := fun mb W => AnyZI.keys_in Tryz.keysS Fence.wide 5 trivial rfl mb W
  have cS := AnyZI.sorted_in Tryz.sortedI Fence.wide 5 trivial trivial trivial trivial rfl (by omega) (sortsI _) (enters_of Tryz.func117 (by kernel_rfl) rfl) 118 #[.pointer (some ⟨w.heap.size, 0, none⟩)] trivial (enters_of Tryz.func118 (by kernel_rfl) rfl) _ _ (by unfold maxLen; omega) (by omega) _ hseq
  change CallsIn _ _ Tryz.prog 95 _ _ _ at cS
  have hfK : Fence.wide.fn 96 := trivial
  have hfS : Fence.wide.fn 95 := trivial
  have HS := Lib.hid hok.srtc
  clear hseq hlen hsz hown h hok
  refine callsIn_of_wp Tryz.func71 rfl trivial ?_ rfl
  simp only [Tryz.ntmps71, List.size_toArray, List.length_cons, List.length_nil, Nat.reduceAdd, Nat.reduceSub, Array.replicate_succ, Array.replicate_zero, List.push_toArray, List.append_toArray, List.nil_append, List.cons_append]
  gi_wp2_with (first
    | (gi_at_call 96; refine (cK _ _).mono ?_; rintro e w' ⟨rfl, rfl⟩)
    | (gi_at_call 95; refine cS.mono ?_; rintro e w' ⟨v, ss, rfl, hS, hrow, hnil, hb⟩))
  go_ret
  rw [intKeys_enc] at hS
  have hS' : ss.Perm (S.changed.map (·.1)) := by unfold changedV at hS; rw [List.map_map] at hS; exact hS
  have hk := keys_sorted HS.out hS'
  have hl : ss.length = S.changed.length := by rw [hS'.length_eq]; simp
  rw [hk, hl] at hrow
  refine ⟨v, rfl, ownsRow_base_a hrow (by simp), ?_, ((Below.refl _ w).alloc (Nat.le_refl _) _).trans (hb.mono (by simp))⟩
  rw [hnil]
  constructor
  · intro e; rw [e] at hl; exact List.eq_nil_of_length_eq_zero hl.symm
  · intro e; rw [e] at hl; exact List.eq_nil_of_length_eq_zero hl
end Go.Proofs.YtdoankamaobkoaaGreatDoor
