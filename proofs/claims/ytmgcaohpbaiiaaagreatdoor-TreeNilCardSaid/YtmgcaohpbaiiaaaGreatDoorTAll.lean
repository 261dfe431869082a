/- Tree.all's iterator where the root is a leaf. -/
import Derived.Test.YtmgcaohpbaiiaaaGreatDoorTRange
import Derived.Test.YtmgcaohpbaiiaaaGreatDoorAll
set_option linter.unusedSimpArgs false
set_option linter.unusedVariables false
namespace Go.Proofs.YtmgcaohpbaiiaaaGreatDoor
open Go.RowKit Go.Maps Go.Shelf

attribute [local go_sem] Oper.semAt_some wide_room wide_fn wide_room_in wide_fn_in
section
variable {w0 w W : World} {s dk t root : Nat} {F F' : Nat → Prop} {n N : Int} {V D : Int → ByteArray} {S S1 : TS}
theorem tall_any (key : ByteArray) (w : World) : Calls Tryz.prog 37 #[.pointer (some ⟨t, 0, none⟩), .string key] w fun e w' => e = .returned (.func (.func 72) #[] #[.pointer (some ⟨w.heap.size, 0, none⟩), .pointer (some ⟨w.heap.size + 1, 0, none⟩)]) ∧ w' = (w.alloc (.cells #[.pointer (some ⟨t, 0, none⟩)] 29)).alloc (.cells #[.string key] 9) := by
  go_enter Tryz.func37, Tryz.ntmps37
  go_wp2
  go_ret
  exact ⟨rfl, rfl⟩
set_option maxRecDepth 100000 in
set_option maxHeartbeats 4000000 in
theorem all1_leaf {K : List Ent → World → (Nat → Prop) → Prop} (hK : KStays K) (l : List Ent) (from_ : ByteArray) (l2 : Nat) (hY : YieldsOk w0 s dk t root n V D S K (fun _ => False) (l.drop (lIx l from_)) l2) (hld : loadM S root = some (1, l)) (hne : 0 < l.length) (tb fb : Nat)
    (W : World) (F : Nat → Prop) (N : Int) (O : Nat → Prop) (hJ : JJ w0 s dk t root n V D S K [] W F N O) (htb : W.heap[tb]? = some (.cells #[.pointer (some ⟨t, 0, none⟩)] 29 (0, 0))) (hfb : W.heap[fb]? = some (.cells #[.string from_] 9 (0, 0))) (hN : N < 1000000000) (m : Nat) :
    CallsIn Fence.wide m Tryz.prog 72 (#[.func (.yield l2) #[] #[]] ++ #[.pointer (some ⟨tb, 0, none⟩), .pointer (some ⟨fb, 0, none⟩)]) W fun e w' => (∃ v, e = .returned v) ∧ ∃ F1 O1, JJ w0 s dk t root n V D S K (l.drop (lIx l from_)) w' F1 (N + 4) O1 := by
  have c1 : W.drew.cell? ⟨tb, 0, none⟩ = some (.pointer (some ⟨t, 0, none⟩)) := by rw [cell_of (w := W.drew) htb]; rfl
  have c2 : W.drew.cell? ⟨fb, 0, none⟩ = some (.string from_) := by rw [cell_of (w := W.drew) hfb]; rfl
  have c3 : W.drew.cell? ⟨t, 1, none⟩ = some (.int .i64 root) := (hJ.made hK ((Below.refl _ W).drew)).tin.cell.2
  have hWK : ∀ m, CallsIn Fence.wide m Tryz.prog 47 #[.pointer (some ⟨t, 0, none⟩), .int .i64 root, .int .i64 0, .string from_, .func (.func 73) #[] #[], .func (.yield l2) #[] #[]] W.drew fun e w' => e = .returned (.bool true) ∧ ∃ F1 O1, JJ w0 s dk t root n V D S K (l.drop (lIx l from_)) w' F1 (N + 4) O1 := fun m => (twalkY_leaf hK (l.drop (lIx l from_)) l2 hY root l hld hne 0 from_ [] (List.prefix_refl _) W.drew F N O (hJ.made hK ((Below.refl _ W).drew)) hN m).mono fun e w' h => by
    rcases h with ⟨he, F1, O1, hj, -⟩ | ⟨-, hf⟩
    · exact ⟨he, F1, O1, hj⟩
    · exact hf.elim
  have HWK := Lib.hid (hWK)
  clear hWK hJ htb hfb
  refine callsIn_of_wp Tryz.func72 rfl trivial ?_ rfl
  simp only [Tryz.ntmps72, List.size_toArray, List.length_cons, List.length_nil, Nat.reduceAdd, Nat.reduceSub, Array.replicate_succ, Array.replicate_zero, List.push_toArray, List.append_toArray, List.nil_append, List.cons_append]
  gi_region_with (gi_at_call 47; refine (HWK.out _).mono ?_; rintro e w5 ⟨rfl, F1, O1, hj⟩)
  all_goals
    go_end0
    exact ⟨⟨_, rfl⟩, F1, O1, hj⟩
end
end Go.Proofs.YtmgcaohpbaiiaaaGreatDoor
