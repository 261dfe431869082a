/- Looking at a tree, at all depths. -/
import Derived.Test.YtmgcaohpbaiiaaaGreatDoorVg
set_option linter.unusedSimpArgs false
set_option linter.unusedVariables false
namespace Go.Proofs.YtmgcaohpbaiiaaaGreatDoor
open Go.RowKit Go.Maps Go.Shelf
def nthL {α β : Type} (F : α → List β) (L : List α) (i : Nat) : List β := (L[i]?.map F).getD []
theorem nth_get {α β : Type} (F : α → List β) (L : List α) {i : Nat} (h : i < L.length) : nthL F L i = F L[i] := by simp [nthL, h]
theorem nth_take {α β : Type} (F : α → List β) (L : List α) : ∀ k, k ≤ L.length → (List.range k).flatMap (nthL F L) = (L.take k).flatMap F
  | 0, _ => by simp
  | k + 1, h => by
    have hk : k < L.length := by omega
    rw [List.range_succ, List.flatMap_append, nth_take F L k (by omega), List.take_succ_eq_append_getElem hk, List.flatMap_append]
    simp [nth_get F L hk]
theorem PgRow.sub {S : TS} {w : World} {g : Nat} {P Q : List Nat} (h : PgRow S w g P) (hs : ∀ k ∈ Q, k ∈ P) : PgRow S w g Q := fun k hk => h k (hs k hk)
theorem PgRow.made {S : TS} {w w' : World} {g : Nat} {P : List Nat} (h : PgRow S w g P) (hB : Below w.heap.size w w') (hg : g < w.heap.size) : PgRow S w' g P := fun k hk => ⟨(h k hk).1, fun kind l e => (hB.cell (p := ⟨g, k, none⟩) hg).trans ((h k hk).2 kind l e)⟩
section
variable {f m : Nat} {S : TS}
set_option maxHeartbeats 1000000 in
theorem look_any (hfm : f + m < 65536) (g : Nat) : ∀ (d fuel at_ : Nat) (L : List (Bd d)) (lo hi : ByteArray) (w : World), d < fuel → fuel ≤ 1000 → Lay f m S d at_ L → (d ≠ 0 → L ≠ []) → g < w.heap.size → PgRow S w g (at_ :: pgL d L) → (∀ q ∈ flL d L, InB lo hi q.1) → (flL d L).length ≤ 400000 → (pgL d L).length ≤ 400000 →
    Calls Tryz.prog 52 #[.slice (some ⟨g, 0, none⟩) 2048 2048, .int .i64 at_, .string lo, .string hi, .int .i64 fuel] w fun e w' => ∃ a1 c1 a2 c2, e = .returned (.agg #[.slice a1 (flL d L).length c1, .slice a2 (at_ :: pgL d L).length c2, .int .i64 ((d : Int) + 1), .bool true]) ∧ EOwn w' w.heap.size (.slice a1 (flL d L).length c1) (flL d L) ∧ w'.ownsRow w.heap.size 3 1 (.slice a2 (at_ :: pgL d L).length c2) (at_ :: pgL d L).length ((at_ :: pgL d L).map encN) ∧ Below w.heap.size w w'
  | 0, fuel, at_, L, lo, hi, w, hf, hf2, h, hne, hg, hr, hb, hl1, hl2 => by
    obtain ⟨r1, r2⟩ := hr at_ (by simp)
    have hld := loadM_lay h hne
    have hc := r2 _ _ hld
    have hfine : Fine 1 (enL 0 L) := okB_fine.1 h.ok
    rw [flL_zero] at hb ⊢
    rw [enL_zero] at hc hfine
    rw [pgL_zero]
    exact look_leaf w g at_ lo hi fuel L r1 hc hg hfine hb (by omega) hf2
  | d + 1, fuel, at_, L, lo, hi, w, hf, hf2, h, hne, hg, hr, hb, hl1, hl2 => by
    obtain ⟨fuel, rfl⟩ : ∃ k, fuel = k + 1 := ⟨fuel - 1, by omega⟩
    obtain ⟨r1, r2⟩ := hr at_ (by simp)
    have hld := loadM_lay h hne
    have hc := r2 _ _ hld
    have hL := hne (by omega)
    have hfine : Fine 2 (enL (d + 1) L) := okB_fine.1 h.ok
    have hlen : (enL (d + 1) L).length = L.length := by unfold enL; simp
    have hget : ∀ i (hi' : i < (enL (d + 1) L).length), (enL (d + 1) L)[i] = ((L[i]'(by omega)).1, nmB (L[i]'(by omega)).2.1) := fun i hi' => List.getElem_map (bdE (d + 1)) (h := hi')
    have := look_branch w g at_ lo hi (fuel + 1) (enL (d + 1) L) r1 hc hg hfine (by unfold enL; simpa using hL) (by omega) hf2 (nthL (flB (d + 1)) L) (nthL (pgB (d + 1)) L) (d + 1) (by omega) (fun i hi' => ?_) (fun k hk => ?_)
    · rw [hlen, nth_take _ _ _ (Nat.le_refl _), nth_take _ _ _ (Nat.le_refl _), List.take_length] at this
      exact this
    · have hiL : i < L.length := by omega
      rw [nth_get _ _ hiL, nth_get _ _ hiL, hget i hi']
      have hsp : L = L.take i ++ L[i] :: L.drop (i + 1) := by rw [← List.drop_eq_getElem_cons hiL, List.take_append_drop]
      have hch := Lay.child (A := L.take i) (c := L[i]) (B := L.drop (i + 1)) (by rw [← hsp]; exact h)
      have hmem : L[i] ∈ L := List.getElem_mem hiL
      have hgb := GoodB_succ.1 (h.good.all _ hmem)
      have hpm : ∀ k ∈ pgB (d + 1) L[i], k ∈ pgL (d + 1) L := fun k hk => List.mem_flatMap.2 ⟨_, hmem, hk⟩
      have hfm2 : ∀ q ∈ flB (d + 1) L[i], q ∈ flL (d + 1) L := fun q hq => List.mem_flatMap.2 ⟨_, hmem, hq⟩
      have hpt : (L[i]).2.1 < 65536 := by
        have := h.taken (L[i]).2.1 (List.mem_cons_of_mem _ (hpm _ (by rw [pgB_succ]; simp)))
        unfold okM at this
        simp at this
        omega
      refine ⟨nmB_size _, flL_ne hgb.2.2.2 hgb.1, by rw [pgB_succ]; simp, fun W hB => ?_⟩
      have ih := look_any hfm g d fuel (L[i]).2.1 (L[i]).2.2 (if i = 0 then lo else (L[i]).1) (if h : i + 1 < (enL (d + 1) L).length then ((enL (d + 1) L)[i + 1]'h).1 else hi) W (by omega) (by omega) hch.1 (fun _ => hch.2) (by have := hB.size; omega)
        ((hr.made hB hg).sub fun k hk => List.mem_cons_of_mem _ (hpm k (by rw [pgB_succ]; exact hk)))
        (fun q hq => ?_) (by
          have h1 : (flB (d + 1) L[i]).length ≤ (flL (d + 1) L).length := (List.sublist_flatten_of_mem (List.mem_map_of_mem hmem)).length_le
          rw [flB_succ] at h1
          omega) (by
          have h1 : (pgB (d + 1) L[i]).length ≤ (pgL (d + 1) L).length := (List.sublist_flatten_of_mem (List.mem_map_of_mem hmem)).length_le
          rw [pgB_succ, List.length_cons] at h1
          omega)
      · rw [pgN_nm hpt, show (((fuel + 1 : Nat) : Int) - 1) = (fuel : Int) by push_cast; omega, show (((d + 1 : Nat) : Int)) = (d : Int) + 1 by push_cast; rfl]
        exact ih
      · have hq2 := hfm2 q (by rw [flB_succ]; exact hq)
        have hi0 := hb q hq2
        refine ⟨?_, ?_, hi0.ne⟩
        · by_cases h0 : i = 0
          · rw [if_pos h0]; exact hi0.lo
          · rw [if_neg h0]
            obtain ⟨b, hb1, hb2⟩ := List.mem_flatMap.1 hq
            exact hgb.2.2.1 _ (List.mem_flatMap.2 ⟨b, hb1, fl_ks hb2⟩)
        · by_cases h1 : i + 1 < (enL (d + 1) L).length
          · rw [dif_pos h1, hget _ h1]
            right
            have hi1 : i + 1 < L.length := by omega
            exact List.pairwise_iff_getElem.1 h.good.lt i (i + 1) hiL hi1 (by omega) _ (fl_ks (b := L[i]) (by rw [flB_succ]; exact hq))
          · rw [dif_neg h1]; exact hi0.hi
    · have hkL : k ≤ L.length := by omega
      rw [nth_take _ _ _ hkL, nth_take _ _ _ hkL]
      have h1 : ((L.take k).flatMap (flB (d + 1))).length ≤ (flL (d + 1) L).length := by
        have e : flL (d + 1) L = (L.take k).flatMap (flB (d + 1)) ++ (L.drop k).flatMap (flB (d + 1)) := by rw [← List.flatMap_append, List.take_append_drop]; rfl
        rw [e, List.length_append]; omega
      have h2 : ((L.take k).flatMap (pgB (d + 1))).length ≤ (pgL (d + 1) L).length := by
        have e : pgL (d + 1) L = (L.take k).flatMap (pgB (d + 1)) ++ (L.drop k).flatMap (pgB (d + 1)) := by rw [← List.flatMap_append, List.take_append_drop]; rfl
        rw [e, List.length_append]; omega
      omega
theorem fl_size : ∀ (d : Nat) (b : Bd d), GoodB d b → ∀ q ∈ flB d b, q.1.size ≠ 0
  | 0, b, h, q, hq => by
    obtain rfl := List.mem_singleton.1 hq
    exact h
  | d + 1, b, h, q, hq => by
    obtain ⟨c, hc, hq2⟩ := List.mem_flatMap.1 hq
    exact fl_size d c ((GoodB_succ.1 h).2.2.2.all c hc) q hq2
theorem look_tree {root B : Nat} {l : List Ent} {P : List Nat} (h : TreeL f m S root l P B) (hfm : f + m < 65536) (hB : B ≤ 39000) (g : Nat) (w : World) (hg : g < w.heap.size) (hr : PgRow S w g P) :
    Calls Tryz.prog 52 #[.slice (some ⟨g, 0, none⟩) 2048 2048, .int .i64 root, .string ⟨#[]⟩, .string ⟨#[]⟩, .int .i64 60] w fun e w' => ∃ (d : Nat) (a1 : Option Addr) (c1 : Nat) (a2 : Option Addr) (c2 : Nat), e = .returned (.agg #[.slice a1 l.length c1, .slice a2 P.length c2, .int .i64 ((d : Int) + 1), .bool true]) ∧ EOwn w' w.heap.size (.slice a1 l.length c1) l ∧ w'.ownsRow w.heap.size 3 1 (.slice a2 P.length c2) P.length (P.map encN) ∧ Below w.heap.size w w' := by
  have hlen := h.len
  have hfew := h.few hB
  obtain ⟨d, L, h1, rfl, rfl, h4⟩ := h
  have hd := (h1.small (by omega)).1
  refine (look_any hfm g d 60 root L ⟨#[]⟩ ⟨#[]⟩ w (by omega) (by omega) h1.lay (fun h0 => h1.ne h0) hg hr (fun q hq => ⟨ltB_empty _, .inl rfl, ?_⟩) (by omega) (by simp at hfew; omega)).mono ?_
  · obtain ⟨b, hb, hq2⟩ := List.mem_flatMap.1 hq
    exact fl_size d b (h1.lay.good.all b hb) q hq2
  · rintro e w' ⟨a1, c1, a2, c2, he⟩
    exact ⟨d, a1, c1, a2, c2, he⟩
end
end Go.Proofs.YtmgcaohpbaiiaaaGreatDoor
