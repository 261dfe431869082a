/- Put on a tree, as plain data · Put below a branch, as plain data · Put on a tree, as plain data: a page that is not the root; the root · A tree's pages are at most thrice its entries; it isn't deep · Take on a tree, as plain data: two pages made one; a page below a branch that has turned or is gone · Take and Delete on a tree, as plain data · The walk over a tree, and Get, as plain data. -/
import Derived.Test.YtmgcaohpbaiiaaaGreatDoorU5
namespace Go.Proofs.YtmgcaohpbaiiaaaGreatDoor
/-! TPutL -/
section
set_option linter.unusedSimpArgs false
set_option linter.unusedVariables false
open Go.RowKit Go.Maps Go.Shelf

/-- by how many bytes the entries grow where one is put -/
def dltP (l : List Ent) (key value : ByteArray) : Nat := lSum (putL l key value) - lSum l
/-- a page with a list, as it lies -/
structure Lay (f m : Nat) (S : TS) (d at_ : Nat) (L : List (Bd d)) : Prop where
  pg : S.pg at_ = some (kd d, enL d L)
  ok : okB (kd d) (enL d L) = true
  lies : LiesL S d L
  good : GoodL d L
  nd : (at_ :: pgL d L).Nodup
  taken : ∀ k ∈ at_ :: pgL d L, okM f m S k = true
/-- the list that is written behind a put below, ahead of the page's own writing -/
structure Mid (f m : Nat) (S S1 : TS) (d at_ : Nat) (L L2 : List (Bd d)) (key value : ByteArray) : Prop where
  ne : L2 ≠ []
  lies : LiesL S1 d L2
  good : GoodL d L2
  nd : (at_ :: pgL d L2).Nodup
  ext : Ext f m S S1 (at_ :: pgL d L) (at_ :: pgL d L2)
  size : ∃ e, (e ≤ 98 ∧ lSum (enL d L2) + e ≤ 508 ∧ (d ≠ 0 → e ≤ 36)) ∧ ∀ q ∈ enL d L2, q.1.size ≤ 32 ∧ q.2.size ≤ 64 ∧ 2 + q.1.size + q.2.size ≤ e
  fl : flL d L2 = putL (flL d L) key value
  ks : ∀ y ∈ ksL d L2, y ∈ ksL d L ∨ y = key
  len : d ≠ 0 → L.length ≤ L2.length
  grow : (pgL d L2).length ≤ (pgL d L).length + d
  st : stL d L2 ≤ stL d L + dltP (flL d L) key value
structure PutRes (f m : Nat) (S S' : TS) (d at_ : Nat) (L : List (Bd d)) (ps : List (Bd (d + 1))) (key value : ByteArray) : Prop where
  ext : Ext f m S S' (at_ :: pgL d L) (pgL (d + 1) ps)
  nd : (pgL (d + 1) ps).Nodup
  lies : LiesL S' (d + 1) ps
  good : ∀ p ∈ ps, GoodB (d + 1) p
  lt : ps.Pairwise (ltK (d + 1))
  fl : flL (d + 1) ps = putL (flL d L) key value
  ks : ∀ y ∈ ksL (d + 1) ps, y ∈ ksL d L ∨ y = key
  size : ∀ p ∈ ps, p.1.size ≤ 32
  grow : (pgL (d + 1) ps).length ≤ (pgL d L).length + 1 + (d + 1)
  shape : (∃ p, ps = [p]) ∨ ∃ p q, ps = [p, q]
  st : stL (d + 1) ps ≤ max (78 * 4 ^ d) (stL d L) + dltP (flL d L) key value
def PutOK' (f m root : Nat) (key value : ByteArray) (d : Nat) : Prop :=
  ∀ (fuel : Nat) (S : TS) (at_ : Nat) (L : List (Bd d)), d < fuel → Lay f m S d at_ L → L ≠ [] → (∀ k ∈ at_ :: pgL d L, k ≠ root) → cntM m S + d + 1 ≤ m →
    ∃ S' ps, putM f m root key value fuel S at_ = some (S', enL (d + 1) ps) ∧ PutRes f m S S' d at_ L ps key value
section
variable {f m root d : Nat} {S S1 S2 : TS} {P Q R : List Nat} {key value : ByteArray}
theorem loadM_lay {at_ : Nat} {L : List (Bd d)} (h : Lay f m S d at_ L) (hne : d ≠ 0 → L ≠ []) : loadM S at_ = some (kd d, enL d L) := by
  unfold loadM
  rw [h.pg]
  simp only
  rw [if_neg]
  rintro ⟨h1, h2⟩
  cases d with
  | zero => cases h1
  | succ d =>
    have : L = [] := by unfold enL at h2; simpa using h2
    exact hne (by omega) this
theorem mid_zero {at_ : Nat} {L : List (Bd 0)} (h : Lay f m S 0 at_ L) (hk : key.size ≤ 32) (hk0 : key.size ≠ 0) (hv : value.size ≤ 64) : Mid f m S S 0 at_ L (lPut L key value) key value := by
  obtain ⟨-, hs, ha, hl⟩ := okB_iff.1 h.ok
  rw [enL_zero] at hs ha hl
  have e : lPut L key value = putL L key value := lPut_eq ha key value
  have hmem : ∀ q ∈ lPut L key value, q = (key, value) ∨ q ∈ L := fun q hq => by rw [e] at hq; exact putL_mem hq
  have hp0 : ∀ M : List (Bd 0), pgL 0 M = [] := fun M => by unfold pgL; rw [List.flatMap_eq_nil_iff]; intro x _; rfl
  have hk00 : ∀ M : List (Bd 0), ksL 0 M = M.map (·.1) := fun M => by
    unfold ksL
    have e : ksB 0 = fun e : Bd 0 => [e.1] := rfl
    rw [e]
    induction M with
    | nil => rfl
    | cons x r ih => rw [List.flatMap_cons, ih]; rfl
  refine ⟨fun hh => ?_, fun b _ => trivial, ⟨?_, fun b hb => ?_⟩, ?_, ?_, ⟨98, ⟨by omega, ?_, fun h0 => absurd rfl h0⟩, fun q hq => ?_⟩, ?_, ?_, fun h0 => absurd rfl h0, ?_, ?_⟩
  · have := lPut_ne L key value
    rw [hh] at this; simp at this
  · have := putL_asc ha key value
    rw [← e] at this
    exact this.imp fun {a b} hab y hy => by
      have : y = a.1 := List.mem_singleton.1 hy
      rw [this]; exact hab
  · rcases hmem b hb with rfl | hb
    · exact hk0
    · exact h.good.all b hb
  · rw [hp0]; simp
  · rw [hp0, hp0]
    exact Ext.refl fun k hk => h.taken k (by rw [hp0]; exact hk)
  · rw [enL_zero]
    have := lSum_put L key value
    omega
  · rw [enL_zero] at hq
    rcases hmem q hq with rfl | hq
    · exact ⟨hk, hv, by simp only; omega⟩
    · have := hs q hq
      exact ⟨this.1, this.2, by omega⟩
  · rw [flL_zero, flL_zero, e]
  · intro y hy
    rw [hk00] at hy ⊢
    obtain ⟨q, hq, rfl⟩ := List.mem_map.1 hy
    rcases hmem q hq with rfl | hq
    · exact .inr rfl
    · exact .inl (List.mem_map_of_mem hq)
  · rw [hp0, hp0]; simp
  · rw [stL_zero, stL_zero, flL_zero, e]
    unfold dltP
    omega
end
end
/-! TPutL2 -/
section
set_option linter.unusedSimpArgs false
set_option linter.unusedVariables false
open Go.RowKit Go.Maps Go.Shelf

section
variable {f m root d : Nat} {S S1 S2 : TS} {key value : ByteArray}
theorem pgN_at {k : Nat} (hfm : f + m < 65536) (hk : okM f m S k = true) : pgN (nmB k) = k := pgN_nm (by have := okM_bd hk; omega)
theorem Lay.child {at_ : Nat} {A B : List (Bd (d + 1))} {c : Bd (d + 1)} (h : Lay f m S (d + 1) at_ (A ++ c :: B)) : Lay f m S d c.2.1 c.2.2 ∧ c.2.2 ≠ [] := by
  have hg := GoodB_succ.1 (h.good.all c (by simp))
  have hl := h.lies c (by simp)
  have hsub : ∀ k ∈ pgB (d + 1) c, k ∈ pgL (d + 1) (A ++ c :: B) := fun k hk => List.mem_flatMap.2 ⟨c, by simp, hk⟩
  refine ⟨⟨hl.1, hg.2.1, hl.2, hg.2.2.2, ?_, fun k hk => h.taken k (List.mem_cons_of_mem _ (hsub k hk))⟩, hg.1⟩
  have := (List.nodup_cons.1 h.nd).2
  rw [pgL_append, pgL_cons] at this
  have := (List.nodup_append.1 (List.nodup_append.1 this).2.1).1
  exact this
set_option maxHeartbeats 1000000 in
theorem mid_of {at_ : Nat} {A B : List (Bd (d + 1))} {c : Bd (d + 1)} {ps : List (Bd (d + 1))} (h : Lay f m S (d + 1) at_ (A ++ c :: B))
    (hB : ∀ b ∈ B, ltB key (bdK (d + 1) b) = true) (hA : A = [] ∨ ltB key (bdK (d + 1) c) = false) (hr : PutRes f m S S1 d c.2.1 c.2.2 ps key value) :
    ∃ p r, ps = p :: r ∧ Mid f m S S1 (d + 1) at_ (A ++ c :: B) (A ++ (minB c.1 p.1, p.2) :: (r ++ B)) key value := by
  obtain ⟨p, r, hps⟩ : ∃ p r, ps = p :: r := by
    rcases hr.shape with ⟨p, e⟩ | ⟨p, q, e⟩
    · exact ⟨_, _, e⟩
    · exact ⟨_, _, e⟩
  subst hps
  refine ⟨p, r, rfl, ?_⟩
  obtain ⟨C, hC⟩ : ∃ C : List (Bd (d + 1)), (minB c.1 p.1, p.2) :: r = C := ⟨_, rfl⟩
  have hL2 : A ++ (minB c.1 p.1, p.2) :: (r ++ B) = A ++ (C ++ B) := by rw [← hC]; rfl
  rw [hL2]
  have hg := h.good
  obtain ⟨gA, gcB⟩ := hg.sub_append
  obtain ⟨gc, gB⟩ := (show GoodL (d + 1) ([c] ++ B) from gcB).sub_append
  obtain ⟨pA, pcB, pAcB⟩ := List.pairwise_append.1 hg.lt
  have pcB2 := List.pairwise_cons.1 pcB
  have hpA : ∀ a ∈ A, ltK (d + 1) a c := fun a ha => pAcB a ha c (by simp)
  have hpAB : ∀ a ∈ A, ∀ b ∈ B, ltK (d + 1) a b := fun a ha b hb => pAcB a ha b (by simp [hb])
  obtain ⟨p1, p2⟩ := List.pairwise_cons.1 hr.lt
  have hgp := GoodB_succ.1 (hr.good p (by simp))
  obtain ⟨-, hsz, hasc, hsum⟩ := okB_iff.1 h.ok
  have eL : enL (d + 1) (A ++ c :: B) = enL (d + 1) A ++ bdE (d + 1) c :: enL (d + 1) B := by rw [enL_append, enL_cons]
  -- the keys of the new ones
  have hks : ∀ y ∈ ksL d c.2.2, y ∈ ksB (d + 1) c := fun y hy => List.mem_cons_of_mem _ hy
  have hKp : ∀ x ∈ p :: r, ∀ y ∈ ksB (d + 1) x, y ∈ ksB (d + 1) c ∨ y = key := fun x hx y hy => by
    rcases hr.ks y (List.mem_flatMap.2 ⟨x, hx, hy⟩) with h1 | h1
    · exact .inl (hks y h1)
    · exact .inr h1
  have hmin : minB c.1 p.1 ∈ ksB (d + 1) c ∨ minB c.1 p.1 = key := by
    rcases minB_or c.1 p.1 with e | e
    · rw [e]; exact .inl List.mem_cons_self
    · rw [e]; exact hKp p (by simp) p.1 List.mem_cons_self
  have hKC : ∀ x ∈ C, ∀ y ∈ ksB (d + 1) x, y ∈ ksB (d + 1) c ∨ y = key := fun x hx y hy => by
    rw [← hC] at hx
    rcases List.mem_cons.1 hx with rfl | hx
    · rcases List.mem_cons.1 hy with rfl | hy
      · exact hmin
      · exact hKp p (by simp) y (List.mem_cons_of_mem _ hy)
    · exact hKp x (by simp [hx]) y hy
  have hCg : ∀ x ∈ C, GoodB (d + 1) x := fun x hx => by
    rw [← hC] at hx
    rcases List.mem_cons.1 hx with rfl | hx
    · rw [GoodB_succ]
      refine ⟨hgp.1, hgp.2.1, fun y hy => ?_, hgp.2.2.2⟩
      exact ltB_le_le (minB_le c.1 p.1).2 (hgp.2.2.1 y hy)
    · exact hr.good x (by simp [hx])
  have hCp : C.Pairwise (ltK (d + 1)) := by
    rw [← hC]
    refine .cons (fun x hx y hy => ?_) p2
    rcases List.mem_cons.1 hy with rfl | hy
    · exact ltB_le_lt (minB_le c.1 p.1).2 (p1 x hx _ List.mem_cons_self)
    · exact p1 x hx y (List.mem_cons_of_mem _ hy)
  have hAC : ∀ a ∈ A, ∀ x ∈ C, ltK (d + 1) a x := fun a ha x hx y hy => by
    have h1 := hpA a ha y hy
    rcases hKC x hx _ (bdK_mem x) with h2 | h2
    · exact ltB_lt_le h1 (ks_ge (hg.all c (by simp)) _ h2)
    · rw [h2]
      rcases hA with h3 | h3
      · rw [h3] at ha; cases ha
      · exact ltB_lt_le h1 h3
  have hCB : ∀ x ∈ C, ∀ b ∈ B, ltK (d + 1) x b := fun x hx b hb y hy => by
    rcases hKC x hx y hy with h1 | h1
    · exact pcB2.1 b hb y h1
    · rw [h1]; exact hB b hb
  have hall : ∀ b ∈ A ++ (C ++ B), GoodB (d + 1) b := fun b hb => by
    rcases List.mem_append.1 hb with hb | hb
    · exact gA.all b hb
    · rcases List.mem_append.1 hb with hb | hb
      · exact hCg b hb
      · exact gB.all b hb
  -- the pages
  have hpgC : pgL (d + 1) C = pgL (d + 1) (p :: r) := by rw [← hC]; rfl
  have hflC : flL (d + 1) C = flL (d + 1) (p :: r) := by rw [← hC]; rfl
  have hndL := h.nd
  rw [pgL_append, pgL_cons] at hndL
  obtain ⟨R, hR⟩ : ∃ R, at_ :: (pgL (d + 1) A ++ pgL (d + 1) B) = R := ⟨_, rfl⟩
  have hpermP : (pgB (d + 1) c ++ R).Perm (at_ :: (pgL (d + 1) A ++ (pgB (d + 1) c ++ pgL (d + 1) B))) := by
    rw [← hR]
    refine List.perm_middle.trans (.cons _ ?_)
    rw [← List.append_assoc, ← List.append_assoc]
    exact .append_right _ List.perm_append_comm
  have hpermQ : (pgL (d + 1) C ++ R).Perm (at_ :: (pgL (d + 1) A ++ (pgL (d + 1) C ++ pgL (d + 1) B))) := by
    rw [← hR]
    refine List.perm_middle.trans (.cons _ ?_)
    rw [← List.append_assoc, ← List.append_assoc]
    exact .append_right _ List.perm_append_comm
  have hndP : (pgB (d + 1) c ++ R).Nodup := hpermP.symm.nodup hndL
  obtain ⟨n1, n2, n3⟩ := List.nodup_append.1 hndP
  have hRok : ∀ k ∈ R, okM f m S k = true ∧ k ∉ c.2.1 :: pgL d c.2.2 := fun k hk => by
    refine ⟨h.taken k ?_, fun hh => n3 k hh k hk rfl⟩
    rw [← hR] at hk
    rw [pgL_append, pgL_cons]
    rcases List.mem_cons.1 hk with rfl | hk
    · exact List.mem_cons_self
    · refine List.mem_cons_of_mem _ ?_
      rcases List.mem_append.1 hk with hk | hk
      · exact List.mem_append_left _ hk
      · exact List.mem_append_right _ (List.mem_append_right _ hk)
  have hE := hr.ext.frame hRok
  have hEE : Ext f m S S1 (at_ :: pgL (d + 1) (A ++ c :: B)) (at_ :: pgL (d + 1) (A ++ (C ++ B))) := by
    rw [pgL_append, pgL_cons, pgL_append, pgL_append]
    refine hE.perm hpermP ?_
    rw [← hpgC]
    exact hpermQ
  have hnd2 : (at_ :: pgL (d + 1) (A ++ (C ++ B))).Nodup := by
    rw [pgL_append, pgL_append]
    refine hpermQ.nodup (List.nodup_append.2 ⟨?_, n2, fun x hx y hy => ?_⟩)
    · rw [hpgC]; exact hr.nd
    · rintro rfl
      rw [hpgC] at hx
      obtain ⟨h1, h2⟩ := hRok x hy
      exact (hr.ext.apart h1 h2).1 hx
  have hlies : LiesL S1 (d + 1) (A ++ (C ++ B)) := by
    have hAB : ∀ b, b ∈ A ∨ b ∈ B → LiesB S1 (d + 1) b := fun b hb => by
      have hm : b ∈ A ++ c :: B := by rcases hb with hb | hb <;> simp [hb]
      refine lies_congr (h.lies b hm) fun k hk => ?_
      have hkR : k ∈ R := by
        rw [← hR]
        refine List.mem_cons_of_mem _ ?_
        rcases hb with hb | hb
        · exact List.mem_append_left _ (List.mem_flatMap.2 ⟨b, hb, hk⟩)
        · exact List.mem_append_right _ (List.mem_flatMap.2 ⟨b, hb, hk⟩)
      obtain ⟨h1, h2⟩ := hRok k hkR
      exact (hr.ext.apart h1 h2).2.2
    intro b hb
    rcases List.mem_append.1 hb with hb | hb
    · exact hAB b (.inl hb)
    · rcases List.mem_append.1 hb with hb | hb
      · rw [← hC] at hb
        rcases List.mem_cons.1 hb with rfl | hb
        · exact hr.lies p (by simp)
        · exact hr.lies b (by simp [hb])
      · exact hAB b (.inr hb)
  have hmidP : putL (flL (d + 1) A ++ flL d c.2.2 ++ flL (d + 1) B) key value = flL (d + 1) A ++ putL (flL d c.2.2) key value ++ flL (d + 1) B := by
    refine putL_mid (fun q hq => ?_) (fun q hq => ?_)
    · rcases hA with h1 | h1
      · rw [h1] at hq; cases hq
      · obtain ⟨a, ha, hq⟩ := List.mem_flatMap.1 hq
        exact ltB_lt_le (hpA a ha _ (fl_ks hq)) h1
    · obtain ⟨b, hb, hq⟩ := List.mem_flatMap.1 hq
      exact ltB_lt_le (hB b hb) (ks_ge (gB.all b hb) _ (fl_ks hq))
  -- sizes
  have hszC : ∀ q ∈ enL (d + 1) C, q.1.size ≤ 32 ∧ q.2.size = 2 := fun q hq => by
    obtain ⟨x, hx, rfl⟩ := List.mem_map.1 hq
    refine ⟨?_, nmB_size _⟩
    rw [← hC] at hx
    rcases List.mem_cons.1 hx with rfl | hx
    · show (minB c.1 p.1).size ≤ 32
      rcases minB_or c.1 p.1 with e | e
      · rw [e]
        exact (hsz (bdE (d + 1) c) (by rw [eL]; simp)).1
      · rw [e]; exact hr.size p (by simp)
    · exact hr.size x (by simp [hx])
  have hClen : C.length ≤ 2 := by
    rw [← hC]
    rcases hr.shape with ⟨p, e⟩ | ⟨p, q, e⟩
    · injection e with e1 e2; subst e2; simp
    · injection e with e1 e2; subst e2; simp
  have hsz2 : ∀ q ∈ enL (d + 1) (A ++ c :: B), q.2.size = 2 := fun q hq => by
    obtain ⟨x, hx, rfl⟩ := List.mem_map.1 hq
    exact nmB_size _
  refine ⟨by rw [← hC]; simp, hlies, ⟨List.pairwise_append.2 ⟨pA, List.pairwise_append.2 ⟨hCp, gB.lt, hCB⟩, fun a ha x hx => ?_⟩, hall⟩, hnd2, hEE, ⟨36, ⟨by omega, ?_, fun _ => by omega⟩, fun q hq => ?_⟩, ?_, ?_, fun _ => ?_, ?_, ?_⟩
  · rcases List.mem_append.1 hx with hx | hx
    · exact hAC a ha x hx
    · exact hpAB a ha x hx
  · have h1 : lSum (enL (d + 1) C) ≤ 72 := by
      have := lSum_le (enL (d + 1) C) 36 fun q hq => by have := hszC q hq; omega
      have h2 : (enL (d + 1) C).length = C.length := by unfold enL; simp
      rw [h2] at this
      omega
    rw [eL, lSum_append] at hsum
    rw [enL_append, enL_append, lSum_append, lSum_append]
    have h3 : lSum (bdE (d + 1) c :: enL (d + 1) B) = (2 + (bdE (d + 1) c).1.size + (bdE (d + 1) c).2.size) + lSum (enL (d + 1) B) := by simp [lSum]
    omega
  · rw [enL_append, enL_append] at hq
    rcases List.mem_append.1 hq with hq | hq
    · have h1 : q ∈ enL (d + 1) (A ++ c :: B) := by rw [eL]; exact List.mem_append_left _ hq
      have := hsz q h1
      have := hsz2 q h1
      omega
    · rcases List.mem_append.1 hq with hq | hq
      · have := hszC q hq
        omega
      · have h1 : q ∈ enL (d + 1) (A ++ c :: B) := by rw [eL]; exact List.mem_append_right _ (List.mem_cons_of_mem _ hq)
        have := hsz q h1
        have := hsz2 q h1
        omega
  · rw [flL_append, flL_append, hflC, hr.fl, flL_append, flL_cons, flB_succ]
    rw [← List.append_assoc, ← List.append_assoc]
    exact hmidP.symm
  · intro y hy
    rw [ksL_append, ksL_append] at hy
    rw [ksL_append, ksL_cons]
    rcases List.mem_append.1 hy with hy | hy
    · exact .inl (List.mem_append_left _ hy)
    · rcases List.mem_append.1 hy with hy | hy
      · obtain ⟨x, hx, hy⟩ := List.mem_flatMap.1 hy
        rcases hKC x hx y hy with h1 | h1
        · exact .inl (List.mem_append_right _ (List.mem_append_left _ h1))
        · exact .inr h1
      · exact .inl (List.mem_append_right _ (List.mem_append_right _ hy))
  · rw [← hC]
    simp only [List.length_append, List.length_cons]
    omega
  · have h1 := hr.grow
    rw [pgL_append, pgL_append, pgL_append, pgL_cons, hpgC]
    simp only [List.length_append]
    have h2 : (pgB (d + 1) c).length = (pgL d c.2.2).length + 1 := by rw [pgB_succ]; simp
    omega
  · have h1 := hr.st
    have h2 : stL (d + 1) C = stL (d + 1) (p :: r) := by rw [← hC]; rfl
    have h3 : dltP (flL (d + 1) (A ++ c :: B)) key value = dltP (flL d c.2.2) key value := by
      unfold dltP
      rw [flL_append, flL_cons, flB_succ, ← List.append_assoc, hmidP]
      simp only [lSum_append]
      omega
    rw [stL_append, stL_append, stL_append, stL_cons, h2, h3, stB_succ]
    omega
end
end
/-! TPutL3 -/
section
set_option linter.unusedSimpArgs false
set_option linter.unusedVariables false
open Go.RowKit Go.Maps Go.Shelf

section
variable {f m root d : Nat} {S S1 S2 : TS} {key value : ByteArray}
theorem Mid.taken {at_ : Nat} {L L2 : List (Bd d)} (h : Mid f m S S1 d at_ L L2 key value) : ∀ k ∈ at_ :: pgL d L2, okM f m S1 k = true := h.ext.taken
theorem Mid.cnt {at_ : Nat} {L L2 : List (Bd d)} (h : Mid f m S S1 d at_ L L2 key value) : cntM m S1 ≤ cntM m S + d := by
  have h1 := h.ext.cnt
  have h2 := h.grow
  simp only [List.length_cons] at h1
  omega
theorem fin_of_mid {at_ : Nat} {L L2 : List (Bd d)} (h : Mid f m S S1 d at_ L L2 key value) (hr : at_ ≠ root) (hc : cntM m S + d + 1 ≤ m) :
    ∃ S' ps, finM f m root S1 at_ (kd d) (enL d L2) = some (S', enL (d + 1) ps) ∧ PutRes f m S S' d at_ L ps key value := by
  obtain ⟨e, he, hs⟩ := h.size
  have hcn := h.cnt
  obtain ⟨S', ps, h1, h2, h3, h4, h5, h6, h7, h8, h9, h10, h11, h12⟩ := fin_ok h.ne h.good h.lies h.taken h.nd hr e he hs (by omega)
  refine ⟨S', ps, h1, ⟨h.ext.trans h2, h3, h4, h5, h6, h7.trans h.fl, fun y hy => h.ks y (h8 y hy), h9, by have := h.grow; omega, h11, ?_⟩⟩
  have := h.st
  omega
theorem put_zero {at_ fuel : Nat} {L : List (Bd 0)} (h : Lay f m S 0 at_ L) : putM f m root key value (fuel + 1) S at_ = finM f m root S at_ (kd 0) (enL 0 (lPut L key value)) := by
  have hl := loadM_lay h (fun h0 => absurd rfl h0)
  have e : enL 0 (lPut L key value) = lPut L key value := enL_zero _
  rw [e]
  unfold putM
  rw [hl, enL_zero]
  rfl
theorem mid_succ (hP : PutOK' f m root key value d) (hfm : f + m < 65536) {fuel at_ : Nat} {L : List (Bd (d + 1))} (h : Lay f m S (d + 1) at_ L) (hne : L ≠ []) (hf : d < fuel) (hr : ∀ k ∈ pgL (d + 1) L, k ≠ root) (hc : cntM m S + d + 1 ≤ m) :
    ∃ S1 L2, putM f m root key value (fuel + 1) S at_ = finM f m root S1 at_ (kd (d + 1)) (enL (d + 1) L2) ∧ Mid f m S S1 (d + 1) at_ L L2 key value := by
  obtain ⟨A, c, B, rfl, hix, hB, hA⟩ := child_split (enL_asc h.good) hne key
  obtain ⟨hl, hcne⟩ := h.child
  have hsub : ∀ k ∈ c.2.1 :: pgL d c.2.2, k ∈ pgL (d + 1) (A ++ c :: B) := fun k hk => List.mem_flatMap.2 ⟨c, by simp, hk⟩
  obtain ⟨S1, ps, hput, hres⟩ := hP fuel S c.2.1 c.2.2 hf hl hcne (fun k hk => hr k (hsub k hk)) (by omega)
  obtain ⟨p, r, rfl, hmid⟩ := mid_of h hB hA hres
  refine ⟨S1, _, ?_, hmid⟩
  have hlo := loadM_lay h fun _ => hne
  have hget : (enL (d + 1) (A ++ c :: B))[cIx (enL (d + 1) (A ++ c :: B)) key]? = some (bdE (d + 1) c) := by
    rw [hix, enL_append, enL_cons, List.getElem?_append_right (by unfold enL; simp)]
    simp [enL]
  have hsz : ¬ (bdE (d + 1) c).2.size < 2 := by
    have : (bdE (d + 1) c).2.size = 2 := nmB_size _
    omega
  have hpg : pgN (bdE (d + 1) c).2 = c.2.1 := pgN_at hfm (hl.taken c.2.1 List.mem_cons_self)
  unfold putM
  rw [hlo]
  simp only [Option.bind_some]
  rw [if_neg (by show ¬ kd (d + 1) = 1; simp [kd]), hget]
  simp only
  rw [if_neg hsz, hpg, hput]
  simp only [Option.bind_some]
  have hal : (enL (d + 1) A).length = A.length := by unfold enL; simp
  have hrep : repL (enL (d + 1) (A ++ c :: B)) (cIx (enL (d + 1) (A ++ c :: B)) key) ((minB (bdE (d + 1) c).1 (bdE (d + 1) p).1, (bdE (d + 1) p).2) :: enL (d + 1) r) = enL (d + 1) (A ++ (minB c.1 p.1, p.2) :: (r ++ B)) := by
    rw [hix]
    unfold repL
    rw [enL_append, enL_append, enL_cons, List.take_left' hal, List.drop_append, hal]
    have e1 : (enL (d + 1) A).drop (A.length + 1) = [] := List.drop_of_length_le (by omega)
    have e2 : enL (d + 1) ((minB c.1 p.1, p.2) :: (r ++ B)) = (minB (bdE (d + 1) c).1 (bdE (d + 1) p).1, (bdE (d + 1) p).2) :: (enL (d + 1) r ++ enL (d + 1) B) := by
      rw [← enL_append]; rfl
    rw [e1, e2]
    simp only [show A.length + 1 - A.length = 1 by omega, List.drop_succ_cons, List.drop_zero, List.nil_append]
    rw [List.append_assoc]
    rfl
  rw [← hrep]
  rfl
theorem put_ok (hfm : f + m < 65536) (hk : key.size ≤ 32) (hk0 : key.size ≠ 0) (hv : value.size ≤ 64) : ∀ d, PutOK' f m root key value d
  | 0 => by
    intro fuel S at_ L hf h hne hr hc
    obtain ⟨fuel, rfl⟩ : ∃ k, fuel = k + 1 := ⟨fuel - 1, by omega⟩
    rw [put_zero h]
    exact fin_of_mid (mid_zero h hk hk0 hv) (hr at_ List.mem_cons_self) hc
  | d + 1 => by
    intro fuel S at_ L hf h hne hr hc
    obtain ⟨fuel, rfl⟩ : ∃ k, fuel = k + 1 := ⟨fuel - 1, by omega⟩
    obtain ⟨S1, L2, e, hm⟩ := mid_succ (put_ok hfm hk hk0 hv d) hfm (fuel := fuel) h hne (by omega) (fun k hk => hr k (List.mem_cons_of_mem _ hk)) (by omega)
    rw [e]
    exact fin_of_mid hm (hr at_ List.mem_cons_self) hc
/-- the root is written again: it fits, or two pages are made below it -/
theorem fin_root {at_ : Nat} {L L2 : List (Bd d)} (h : Mid f m S S1 d at_ L L2 key value) (hr : at_ = root) (hc : cntM m S + d + 2 ≤ m) :
    ∃ S' ps d' L', finM f m root S1 at_ (kd d) (enL d L2) = some (S', ps) ∧ Lay f m S' d' at_ L' ∧ Ext f m S S' (at_ :: pgL d L) (at_ :: pgL d' L') ∧ flL d' L' = putL (flL d L) key value ∧ ((∃ e : d' = d, e ▸ L' = L2) ∨ (d' = d + 1 ∧ L'.length = 2)) ∧ stL d' L' ≤ stL d L + dltP (flL d L) key value := by
  obtain ⟨e, he, hs⟩ := h.size
  have hcn := h.cnt
  have hs2 : ∀ q ∈ enL d L2, q.1.size ≤ 32 ∧ q.2.size ≤ 64 := fun q hq => ⟨(hs q hq).1, (hs q hq).2.1⟩
  have hnat : at_ ∉ pgL d L2 := (List.nodup_cons.1 h.nd).1
  have hsub : ∀ k ∈ pgL d L2, okM f m S1 k = true ∧ k ∉ [at_] := fun k hk => ⟨h.taken k (List.mem_cons_of_mem _ hk), fun hh => hnat (by rw [List.mem_singleton] at hh; rwa [hh] at hk)⟩
  by_cases hfit : lSum (enL d L2) ≤ 254
  · have hG := node_good (at_ := at_) h.ne h.good hs2 hfit
    have hokB : okB (kd d) (enL d L2) = true := (GoodB_succ.1 hG).2.1
    obtain ⟨S', hst, hE, hpg⟩ := store_ext (h.taken at_ List.mem_cons_self) hokB
    have hE2 : Ext f m S1 S' (at_ :: pgL d L2) (at_ :: pgL d L2) := hE.frame (R := pgL d L2) hsub
    refine ⟨S', [(key0 (enL d L2), nmB at_)], d, L2, ?_, ⟨hpg, hokB, h.lies.ext hE hsub, h.good, h.nd, hE2.taken⟩, h.ext.trans hE2, h.fl, .inl ⟨rfl, rfl⟩, h.st⟩
    unfold finM
    rw [if_pos (by unfold lSize; omega), hst]; rfl
  · obtain ⟨hlen, hb1, hb2⟩ := lCut_bal (enL d L2) e (fun q hq => (hs q hq).2.2) (by omega)
    have hcb := lCut_bd hlen
    have hll : (enL d L2).length = L2.length := by unfold enL; simp
    obtain ⟨c, hcdef⟩ : ∃ c, lCut (enL d L2) = c := ⟨_, rfl⟩
    have h4 : d ≠ 0 → 4 ≤ (L2.take c).length ∧ 4 ≤ (L2.drop c).length := fun h0 => by
      have := lCut_four (enL d L2) (fun q hq => by have := (hs q hq).2.2; have := he.2.2 h0; omega) (by omega)
      rw [hcdef] at this
      simpa [hll] using this
    have eT : enL d (L2.take c) = (enL d L2).take c := by unfold enL; rw [List.map_take]
    have eD : enL d (L2.drop c) = (enL d L2).drop c := by unfold enL; rw [List.map_drop]
    rw [hcdef] at hb1 hb2 hcb
    have hXY : L2.take c ++ L2.drop c = L2 := List.take_append_drop c L2
    obtain ⟨X, hX⟩ : ∃ X, L2.take c = X := ⟨_, rfl⟩
    obtain ⟨Y, hY⟩ : ∃ Y, L2.drop c = Y := ⟨_, rfl⟩
    have hXl : X.length = c := by rw [← hX, List.length_take]; omega
    have hYl : Y.length = L2.length - c := by rw [← hY, List.length_drop]
    rw [hX, hY] at hXY h4
    rw [hX] at eT
    rw [hY] at eD
    rw [← eT] at hb1
    rw [← eD] at hb2
    have hXne : X ≠ [] := fun h => by rw [h] at hXl; simp at hXl; omega
    have hYne : Y ≠ [] := fun h => by rw [h] at hYl; simp at hYl; omega
    have hgXY : GoodL d (X ++ Y) := by rw [hXY]; exact h.good
    have hlXY : LiesL S1 d (X ++ Y) := by rw [hXY]; exact h.lies
    obtain ⟨gX, gY⟩ := hgXY.sub_append
    obtain ⟨lX, lY⟩ := hlXY.sub
    have eP : pgL d L2 = pgL d X ++ pgL d Y := by rw [← hXY, pgL_append]
    have eF : flL d L2 = flL d X ++ flL d Y := by rw [← hXY, flL_append]
    have eE : enL d L2 = enL d X ++ enL d Y := by rw [← hXY, enL_append]
    have sX : ∀ q ∈ enL d X, q.1.size ≤ 32 ∧ q.2.size ≤ 64 := fun q hq => hs2 q (by rw [eE]; exact List.mem_append_left _ hq)
    have sY : ∀ q ∈ enL d Y, q.1.size ≤ 32 ∧ q.2.size ≤ 64 := fun q hq => hs2 q (by rw [eE]; exact List.mem_append_right _ hq)
    obtain ⟨a, S2, hal, hE1, hpg1, hna, hya, ha1, ha2⟩ := alloc_ext (f := f) (show cntM m S1 < m by omega)
    have hc1 : cntM m S2 = cntM m S1 + 1 := by have := hE1.cnt; simpa using this
    obtain ⟨b, S3, hbl, hE2, hpg2, hnb, hyb, hb3, hb4⟩ := alloc_ext (f := f) (show cntM m S2 < m by omega)
    -- the pages so far
    obtain ⟨P0, hP0⟩ : ∃ P0, at_ :: pgL d L2 = P0 := ⟨_, rfl⟩
    have hokP : ∀ k ∈ P0, okM f m S1 k = true := by rw [← hP0]; exact h.taken
    have hndP : P0.Nodup := by rw [← hP0]; exact h.nd
    have hPa : ∀ k ∈ P0, k ≠ a := fun k hk hh => by have := hokP k hk; rw [hh, hna] at this; cases this
    have hok2 : ∀ k ∈ P0, okM f m S2 k = true := fun k hk => (hE1.apart (hokP k hk) (by simp)).2.1
    have hPb : ∀ k ∈ P0, k ≠ b := fun k hk hh => by have := hok2 k hk; rw [hh, hnb] at this; cases this
    have hab : a ≠ b := fun hh => by rw [hh, hnb] at hya; cases hya
    have hatP : at_ ∈ P0 := by rw [← hP0]; exact List.mem_cons_self
    have F1 : Ext f m S1 S2 P0 (a :: P0) := hE1.frame (R := P0) fun k hk => ⟨hokP k hk, by simp⟩
    have F2 : Ext f m S2 S3 (a :: P0) (b :: a :: P0) := hE2.frame (R := a :: P0) fun k hk => by
      rcases List.mem_cons.1 hk with rfl | hk
      · exact ⟨hya, by simp⟩
      · exact ⟨hok2 k hk, by simp⟩
    have hnd3 : (b :: a :: P0).Nodup := by
      refine List.nodup_cons.2 ⟨fun hh => ?_, List.nodup_cons.2 ⟨fun hh => hPa a hh rfl, hndP⟩⟩
      rcases List.mem_cons.1 hh with hh | hh
      · exact hab hh.symm
      · exact hPb b hh rfl
    obtain ⟨Q, hQ⟩ : ∃ Q, b :: a :: P0 = Q := ⟨_, rfl⟩
    rw [hQ] at F2 hnd3
    have haQ : a ∈ Q := by rw [← hQ]; simp
    have hbQ : b ∈ Q := by rw [← hQ]; simp
    have hatQ : at_ ∈ Q := by rw [← hQ]; exact List.mem_cons_of_mem _ (List.mem_cons_of_mem _ hatP)
    have stay : ∀ {T T' : TS} {x : Nat}, (∀ k ∈ Q, okM f m T k = true) → x ∈ Q → Ext f m T T' [x] [x] → Ext f m T T' Q Q := fun {T T' x} hT hx hE => by
      have hp := List.perm_cons_erase hx
      have := hE.frame (R := Q.erase x) fun k hk => ⟨hT k (List.mem_of_mem_erase hk), fun hh => by
        rw [List.mem_singleton] at hh
        rw [hh] at hk
        exact (List.nodup_cons.1 (hp.nodup hnd3)).1 hk⟩
      exact this.perm hp.symm hp.symm
    have GX := node_good (at_ := a) hXne gX sX (by omega)
    have GY := node_good (at_ := b) hYne gY sY (by omega)
    have hT3 := F2.taken
    obtain ⟨S4, hst4, hE4, hpg4⟩ := store_ext (hT3 a haQ) (GoodB_succ.1 GX).2.1
    have F4 := stay hT3 haQ hE4
    have hT4 := F4.taken
    obtain ⟨S5, hst5, hE5, hpg5⟩ := store_ext (hT4 b hbQ) (GoodB_succ.1 GY).2.1
    have F5 := stay hT4 hbQ hE5
    have hT5 := F5.taken
    obtain ⟨PS, hPS⟩ : ∃ PS : List (Bd (d + 1)), [(key0 (enL d X), (a, X)), (key0 (enL d Y), (b, Y))] = PS := ⟨_, rfl⟩
    have hgood : GoodL (d + 1) PS := by
      rw [← hPS]
      refine ⟨.cons (fun p hp => ?_) (List.pairwise_singleton _ _), fun p hp => ?_⟩
      · obtain rfl := List.mem_singleton.1 hp
        have key : ∀ y ∈ ksL d X, ltB y (key0 (enL d Y)) = true := fun y hy => by
          cases hYc : Y with
          | nil => exact absurd hYc hYne
          | cons b B =>
            rw [key0_en]
            obtain ⟨x, hx, hyx⟩ := List.mem_flatMap.1 hy
            have := (List.pairwise_append.1 hgXY.lt).2.2 x hx b (by rw [hYc]; simp)
            exact this y hyx
        intro y hy
        rw [ksB_succ] at hy
        rcases List.mem_cons.1 hy with rfl | hy
        · exact key _ (key0_mem hXne)
        · exact key y hy
      · rcases List.mem_cons.1 hp with rfl | hp
        · exact GX
        · obtain rfl := List.mem_singleton.1 hp
          exact GY
    have hokR : okB 2 (enL (d + 1) PS) = true := by
      refine okB_iff.2 ⟨.inr rfl, fun q hq => ?_, enL_asc hgood, ?_⟩
      · rw [← hPS] at hq
        rcases List.mem_cons.1 hq with rfl | hq
        · exact ⟨key0_size hXne sX, by show (nmB a).size ≤ 64; rw [nmB_size]; omega⟩
        · obtain rfl := List.mem_singleton.1 hq
          exact ⟨key0_size hYne sY, by show (nmB b).size ≤ 64; rw [nmB_size]; omega⟩
      · have e1 : lSum (enL (d + 1) PS) = (2 + (key0 (enL d X)).size + (nmB a).size) + (2 + (key0 (enL d Y)).size + (nmB b).size) := by
          rw [← hPS]
          simp [enL, lSum, bdE]
        rw [e1, nmB_size, nmB_size]
        have := key0_size hXne sX
        have := key0_size hYne sY
        omega
    obtain ⟨S6, hst6, hE6, hpg6⟩ := store_ext (hT5 at_ hatQ) hokR
    have F6 := stay hT5 hatQ hE6
    have F : Ext f m S1 S6 (at_ :: pgL d L2) Q := by
      rw [hP0]
      exact ((((F1.trans F2).trans F4).trans F5).trans F6)
    have eps : pgL (d + 1) PS = a :: (pgL d X ++ b :: pgL d Y) := by rw [← hPS]; simp [pgL, pgB_succ]
    have hperm : Q.Perm (at_ :: pgL (d + 1) PS) := by
      rw [← hQ, ← hP0, eps, eP]
      refine ((List.Perm.swap _ _ _).trans (.cons _ (List.Perm.swap _ _ _))).trans ?_
      refine (List.Perm.swap _ _ _).trans (.cons _ (.cons _ ?_))
      exact List.perm_middle.symm
    have lies : ∀ {M : List (Bd d)}, LiesL S1 d M → (∀ k ∈ pgL d M, k ∈ pgL d L2) → LiesL S6 d M := fun {M} hM hs => by
      have hk0 : ∀ k ∈ pgL d M, k ∈ P0 := fun k hk => by rw [← hP0]; exact List.mem_cons_of_mem _ (hs k hk)
      have hkQ : ∀ k ∈ pgL d M, k ∈ Q := fun k hk => by rw [← hQ]; exact List.mem_cons_of_mem _ (List.mem_cons_of_mem _ (hk0 k hk))
      refine ((((hM.ext hE1 fun k hk => ⟨hokP k (hk0 k hk), by simp⟩).ext hE2 fun k hk => ⟨hok2 k (hk0 k hk), by simp⟩).ext hE4 fun k hk => ⟨hT3 k (hkQ k hk), ?_⟩).ext hE5 fun k hk => ⟨hT4 k (hkQ k hk), ?_⟩).ext hE6 fun k hk => ⟨hT5 k (hkQ k hk), ?_⟩
      · simp only [List.mem_singleton]; exact hPa k (hk0 k hk)
      · simp only [List.mem_singleton]; exact hPb k (hk0 k hk)
      · exact (hsub k (hs k hk)).2
    have hata : at_ ≠ a := hPa at_ hatP
    have hatb : at_ ≠ b := hPb at_ hatP
    have hp4 : S6.pg a = some (kd d, enL d X) := by
      have e1 := (hE5.apart (hT4 a haQ) (by simp only [List.mem_singleton]; exact hab)).2.2
      have e2 := (hE6.apart (hT5 a haQ) (by simp only [List.mem_singleton]; exact fun hh => hata hh.symm)).2.2
      exact (e2.trans e1).trans hpg4
    have hp5 : S6.pg b = some (kd d, enL d Y) := by
      have e2 := (hE6.apart (hT5 b hbQ) (by simp only [List.mem_singleton]; exact fun hh => hatb hh.symm)).2.2
      exact e2.trans hpg5
    refine ⟨S6, [(⟨#[]⟩, nmB at_)], d + 1, PS, ?_, ⟨hpg6, hokR, fun p hp => ?_, hgood, hperm.nodup hnd3, fun k hk => F6.taken k (hperm.mem_iff.2 hk)⟩, ?_, ?_, .inr ⟨rfl, by rw [← hPS]; rfl⟩, ?_⟩
    · unfold finM
      have hst6' : storeM f m S5 at_ 2 [(key0 (enL d X), nmB a), (key0 (enL d Y), nmB b)] = some S6 := by rw [← hPS] at hst6; exact hst6
      rw [if_neg (by unfold lSize; omega), if_pos hr, hal]
      simp only [Option.bind_some, hbl, hcdef, ← eT, ← eD, hst4, hst5, hst6', Option.map_some]
    · rw [← hPS] at hp
      rcases List.mem_cons.1 hp with rfl | hp
      · exact ⟨hp4, lies lX fun k hk => by rw [eP]; exact List.mem_append_left _ hk⟩
      · obtain rfl := List.mem_singleton.1 hp
        exact ⟨hp5, lies lY fun k hk => by rw [eP]; exact List.mem_append_right _ hk⟩
    · exact (h.ext.trans F).perm (.refl _) hperm
    · rw [← h.fl, eF, ← hPS]
      show flL d X ++ (flL d Y ++ []) = _
      rw [List.append_nil]
    · have h0 := h.st
      have e1 : stL d L2 = stL d X + stL d Y := by rw [← hXY, stL_append]
      have e2 : lSum (enL d L2) = lSum (enL d X) + lSum (enL d Y) := by rw [eE, lSum_append]
      have hx := stL_half (X := X) (fun _ => by omega) fun h0 => (h4 h0).1
      have hy := stL_half (X := Y) (fun _ => by omega) fun h0 => (h4 h0).2
      rw [← hPS, stL_cons, stL_cons, stL_nil, stB_succ, stB_succ]
      show max _ (stL d X) + (max _ (stL d Y) + 0) ≤ _
      rw [Nat.max_eq_right hx, Nat.max_eq_right hy]
      omega
end
end
/-! TCount -/
section
set_option linter.unusedSimpArgs false
set_option linter.unusedVariables false
open Go.RowKit Go.Maps Go.Shelf

/-- a tree, as it lies in a space -/
structure Tree (f m : Nat) (S : TS) (root d : Nat) (L : List (Bd d)) : Prop where
  lay : Lay f m S d root L
  two : d ≠ 0 → 2 ≤ L.length
theorem Tree.ne {f m root d : Nat} {S : TS} {L : List (Bd d)} (h : Tree f m S root d L) (h0 : d ≠ 0) : L ≠ [] := fun e => by
  have := h.two h0
  rw [e] at this; simp at this
theorem put_tree {f m root d : Nat} {S : TS} {L : List (Bd d)} {key value : ByteArray} (h : Tree f m S root d L) (hfm : f + m < 65536) (hk : key.size ≤ 32) (hk0 : key.size ≠ 0) (hv : value.size ≤ 64) (hd : d < 60) (hc : cntM m S + d + 2 ≤ m) :
    ∃ S' ps d' L', putM f m root key value 66 S root = some (S', ps) ∧ Tree f m S' root d' L' ∧ Ext f m S S' (root :: pgL d L) (root :: pgL d' L') ∧ flL d' L' = putL (flL d L) key value ∧ stL d' L' ≤ stL d L + dltP (flL d L) key value := by
  have key : ∃ S1 L2, putM f m root key value 66 S root = finM f m root S1 root (kd d) (enL d L2) ∧ Mid f m S S1 d root L L2 key value := by
    cases d with
    | zero => exact ⟨S, _, put_zero h.lay, mid_zero h.lay hk hk0 hv⟩
    | succ d =>
      have hnr : ∀ k ∈ pgL (d + 1) L, k ≠ root := fun k hk e => (List.nodup_cons.1 h.lay.nd).1 (e ▸ hk)
      exact mid_succ (put_ok hfm hk hk0 hv d) hfm (fuel := 65) h.lay (h.ne (by omega)) (by omega) hnr (by omega)
  obtain ⟨S1, L2, e, hm⟩ := key
  obtain ⟨S', ps, d', L', h1, h2, h3, h4, h5, h6⟩ := fin_root hm rfl hc
  refine ⟨S', ps, d', L', e.trans h1, ⟨h2, fun h0 => ?_⟩, h3, h4, h6⟩
  rcases h5 with ⟨rfl, e5⟩ | ⟨rfl, e5⟩
  · have : L' = L2 := e5
    rw [this]
    have := hm.len h0
    have := h.two h0
    omega
  · omega
/-- the pages below, by how strong they are -/
theorem pages_sum {k : Nat} (ih : ∀ c : Bd (k + 1), 234 * (4 ^ k * (pgB (k + 1) c).length) + stB (k + 1) c ≤ 4 * (4 ^ k * stB (k + 1) c)) : ∀ L : List (Bd (k + 1)), 234 * (4 ^ k * (pgL (k + 1) L).length) + stL (k + 1) L ≤ 4 * (4 ^ k * stL (k + 1) L)
  | [] => by simp [pgL, stL]
  | c :: L => by
    have h1 := ih c
    have h2 := pages_sum ih L
    rw [pgL_cons, stL_cons, List.length_append, Nat.mul_add, Nat.mul_add (4 ^ k) (stB (k + 1) c)]
    omega
theorem pages_le : ∀ (k : Nat) (c : Bd (k + 1)), 234 * (4 ^ k * (pgB (k + 1) c).length) + stB (k + 1) c ≤ 4 * (4 ^ k * stB (k + 1) c)
  | 0, c => by
    have e3 : pgL 0 c.2.2 = [] := by unfold pgL; rw [List.flatMap_eq_nil_iff]; intro x _; rfl
    rw [pgB_succ, stB_succ, e3]
    simp only [Nat.pow_zero, Nat.one_mul, Nat.mul_one, List.length_singleton]
    have := Nat.le_max_left 78 (stL 0 c.2.2)
    omega
  | k + 1, c => by
    have hs := pages_sum (pages_le k) c.2.2
    rw [pgB_succ, stB_succ, Nat.pow_succ]
    simp only [List.length_cons]
    have ha : 1 ≤ 4 ^ k := Nat.pos_of_ne_zero (by simp)
    obtain ⟨a, hae⟩ : ∃ a, 4 ^ k = a := ⟨_, rfl⟩
    obtain ⟨P, hP⟩ : ∃ P, (pgL (k + 1) c.2.2).length = P := ⟨_, rfl⟩
    obtain ⟨s, hse⟩ : ∃ s, stL (k + 1) c.2.2 = s := ⟨_, rfl⟩
    rw [hae, hP, hse] at hs
    rw [hae] at ha ⊢
    rw [hP, hse]
    have e1 : a * 4 * (P + 1) = 4 * (a * P) + 4 * a := by rw [Nat.mul_add, Nat.mul_comm a 4, Nat.mul_assoc, Nat.mul_one]
    rw [e1]
    by_cases hc : 78 * (a * 4) ≤ s
    · rw [Nat.max_eq_right hc]
      have e2 : a * 4 * s = 4 * (a * s) := by rw [Nat.mul_comm a 4, Nat.mul_assoc]
      rw [e2]
      omega
    · rw [Nat.max_eq_left (by omega)]
      obtain ⟨t, ht⟩ : ∃ t, s + t = 312 * a := ⟨312 * a - s, by omega⟩
      have e2 : a * 4 * (78 * (a * 4)) = 1248 * (a * a) := by
        rw [show 78 * (a * 4) = 312 * a by omega, Nat.mul_comm a 4, Nat.mul_assoc, Nat.mul_left_comm a 312 a]
        omega
      have e3 : a * s + a * t = 312 * (a * a) := by rw [← Nat.mul_add, ht, Nat.mul_left_comm]
      have e4 : t ≤ a * t := Nat.le_mul_of_pos_left t ha
      rw [e2]
      omega
theorem Tree.pages {f m root d : Nat} {S : TS} {L : List (Bd d)} (h : Tree f m S root d L) : 234 * (pgL d L).length ≤ 4 * stL d L := by
  cases d with
  | zero =>
    have : pgL 0 L = [] := by unfold pgL; rw [List.flatMap_eq_nil_iff]; intro x _; rfl
    rw [this]
    simp
  | succ k =>
    have h1 := pages_sum (pages_le k) L
    have ha : 0 < 4 ^ k := Nat.pos_of_ne_zero (by simp)
    have h2 : 4 ^ k * (234 * (pgL (k + 1) L).length) ≤ 4 ^ k * (4 * stL (k + 1) L) := by
      rw [Nat.mul_left_comm, Nat.mul_left_comm (4 ^ k) 4]
      omega
    exact Nat.le_of_mul_le_mul_left h2 ha
theorem Tree.deep {f m root d : Nat} {S : TS} {L : List (Bd d)} (h : Tree f m S root d L) (j : Nat) (hs : stL d L < 156 * 4 ^ j) : d ≤ j := by
  cases d with
  | zero => omega
  | succ k =>
    have h1 := stL_ge L
    have h2 := Nat.mul_le_mul_right (78 * 4 ^ k) (h.two (by omega))
    by_cases hj : k + 1 ≤ j
    · exact hj
    · have h3 := Nat.pow_le_pow_right (n := 4) (by omega) (show j ≤ k by omega)
      omega
/-- few entries: few pages, and not deep -/
theorem Tree.small {f m root d : Nat} {S : TS} {L : List (Bd d)} (h : Tree f m S root d L) (hs : stL d L ≤ 39000) : d ≤ 4 ∧ (root :: pgL d L).length ≤ 667 := by
  refine ⟨h.deep 4 (by omega), ?_⟩
  have := h.pages
  simp only [List.length_cons]
  omega
end
/-! TTakeL -/
section
set_option linter.unusedSimpArgs false
set_option linter.unusedVariables false
open Go.RowKit Go.Maps Go.Shelf

/-- the list of a branch page ahead of the page's own writing: S0 and L0 as it was -/
structure Half (f m : Nat) (S0 S : TS) (d at_ : Nat) (L0 L : List (Bd (d + 1))) : Prop where
  lies : LiesL S (d + 1) L
  good : GoodL (d + 1) L
  nd : (at_ :: pgL (d + 1) L).Nodup
  size : ∀ q ∈ enL (d + 1) L, q.1.size ≤ 32 ∧ q.2.size ≤ 64
  sum : lSum (enL (d + 1) L) ≤ 254
  ext : Ext f m S0 S (at_ :: pgL (d + 1) L0) (at_ :: pgL (d + 1) L)
  ks : ∀ y ∈ ksL (d + 1) L, y ∈ ksL (d + 1) L0
  st : stL (d + 1) L ≤ stL (d + 1) L0
/-- the list at a page behind a take -/
structure TakeRes (f m : Nat) (S S' : TS) (d at_ : Nat) (L L' : List (Bd d)) (key : ByteArray) : Prop where
  pg : S'.pg at_ = some (if L'.isEmpty then 1 else kd d, enL d L')
  ok : okB (kd d) (enL d L') = true
  lies : LiesL S' d L'
  good : GoodL d L'
  nd : (at_ :: pgL d L').Nodup
  ext : Ext f m S S' (at_ :: pgL d L) (at_ :: pgL d L')
  fl : flL d L' = takeL (flL d L) key
  ks : ∀ y ∈ ksL d L', y ∈ ksL d L
  st : stL d L' ≤ stL d L
section
variable {f m root d at_ : Nat} {S S0 S1 S2 : TS} {key : ByteArray}
theorem loadM_of {k : Nat} {L : List (Bd d)} (h : S.pg k = some (kd d, enL d L)) (hne : d ≠ 0 → L ≠ []) : loadM S k = some (kd d, enL d L) := by
  unfold loadM
  rw [h]
  simp only
  rw [if_neg]
  rintro ⟨h1, h2⟩
  cases d with
  | zero => cases h1
  | succ d =>
    have : L = [] := by unfold enL at h2; simpa using h2
    exact hne (by omega) this
theorem perm_split {A B : List (Bd (d + 1))} {Q : List Nat} : (Q ++ (at_ :: (pgL (d + 1) A ++ pgL (d + 1) B))).Perm (at_ :: (pgL (d + 1) A ++ (Q ++ pgL (d + 1) B))) := by
  refine List.perm_middle.trans (.cons _ ?_)
  rw [← List.append_assoc, ← List.append_assoc]
  exact .append_right _ List.perm_append_comm
/-- a step on a page of a list, seen from the list -/
theorem ext_in {A B : List (Bd (d + 1))} {c : Bd (d + 1)} {Q : List Nat} (hnd : (at_ :: pgL (d + 1) (A ++ c :: B)).Nodup) (hok : ∀ k ∈ at_ :: pgL (d + 1) (A ++ c :: B), okM f m S k = true) (hE : Ext f m S S1 (pgB (d + 1) c) Q) (hQ : Q.Nodup) :
    Ext f m S S1 (at_ :: pgL (d + 1) (A ++ c :: B)) (at_ :: (pgL (d + 1) A ++ (Q ++ pgL (d + 1) B))) ∧ (at_ :: (pgL (d + 1) A ++ (Q ++ pgL (d + 1) B))).Nodup ∧ (∀ b, b ∈ A ∨ b ∈ B → LiesB S (d + 1) b → LiesB S1 (d + 1) b) := by
  rw [pgL_append, pgL_cons] at hnd hok
  rw [pgL_append, pgL_cons]
  obtain ⟨R, hR⟩ : ∃ R, at_ :: (pgL (d + 1) A ++ pgL (d + 1) B) = R := ⟨_, rfl⟩
  have hp : (pgB (d + 1) c ++ R).Perm (at_ :: (pgL (d + 1) A ++ (pgB (d + 1) c ++ pgL (d + 1) B))) := by rw [← hR]; exact perm_split
  have hq : (Q ++ R).Perm (at_ :: (pgL (d + 1) A ++ (Q ++ pgL (d + 1) B))) := by rw [← hR]; exact perm_split
  obtain ⟨n1, n2, n3⟩ := List.nodup_append.1 (hp.symm.nodup hnd)
  have hRok : ∀ k ∈ R, okM f m S k = true ∧ k ∉ pgB (d + 1) c := fun k hk => ⟨hok k (hp.mem_iff.1 (List.mem_append_right _ hk)), fun hh => n3 k hh k hk rfl⟩
  refine ⟨(hE.frame hRok).perm hp hq, hq.nodup (List.nodup_append.2 ⟨hQ, n2, fun x hx y hy => ?_⟩), fun b hb hl => lies_congr hl fun k hk => ?_⟩
  · rintro rfl
    obtain ⟨h1, h2⟩ := hRok x hy
    exact (hE.apart h1 h2).1 hx
  · have hkR : k ∈ R := by
      rw [← hR]
      refine List.mem_cons_of_mem _ ?_
      rcases hb with hb | hb
      · exact List.mem_append_left _ (List.mem_flatMap.2 ⟨b, hb, hk⟩)
      · exact List.mem_append_right _ (List.mem_flatMap.2 ⟨b, hb, hk⟩)
    obtain ⟨h1, h2⟩ := hRok k hkR
    exact (hE.apart h1 h2).2.2
theorem enL_key_page {A B : List (Bd (d + 1))} {c c' : Bd (d + 1)} (h1 : c'.1 = c.1) (h2 : c'.2.1 = c.2.1) : enL (d + 1) (A ++ c' :: B) = enL (d + 1) (A ++ c :: B) := by
  have : bdE (d + 1) c' = bdE (d + 1) c := by show (c'.1, nmB c'.2.1) = (c.1, nmB c.2.1); rw [h1, h2]
  rw [enL_append, enL_cons, enL_append, enL_cons, this]
/-- a list in which one has turned into one with the same key, and keys of the old one -/
theorem good_turn {A B : List (Bd (d + 1))} {c c' : Bd (d + 1)} (h : GoodL (d + 1) (A ++ c :: B)) (h1 : c'.1 = c.1) (hk : ∀ y ∈ ksB (d + 1) c', y ∈ ksB (d + 1) c) (hg : GoodB (d + 1) c') : GoodL (d + 1) (A ++ c' :: B) := by
  obtain ⟨pA, pcB, pAcB⟩ := List.pairwise_append.1 h.lt
  obtain ⟨q1, q2⟩ := List.pairwise_cons.1 pcB
  refine ⟨List.pairwise_append.2 ⟨pA, .cons (fun b hb y hy => q1 b hb y (hk y hy)) q2, fun a ha b hb => ?_⟩, fun b hb => ?_⟩
  · rcases List.mem_cons.1 hb with rfl | hb
    · intro y hy
      have : ltB y c.1 = true := pAcB a ha c (by simp) y hy
      show ltB y b.1 = true
      rw [h1]; exact this
    · exact pAcB a ha b (by simp [hb])
  · rcases List.mem_append.1 hb with hb | hb
    · exact h.all b (by simp [hb])
    · rcases List.mem_cons.1 hb with rfl | hb
      · exact hg
      · exact h.all b (by simp [hb])
/-- a page below has turned -/
theorem half_child {A B : List (Bd (d + 1))} {c : Bd (d + 1)} {Lc : List (Bd d)} (h : Lay f m S (d + 1) at_ (A ++ c :: B)) (hr : TakeRes f m S S1 d c.2.1 c.2.2 Lc key) (hne : Lc ≠ []) :
    Half f m S S1 d at_ (A ++ c :: B) (A ++ (c.1, (c.2.1, Lc)) :: B) := by
  have hg := GoodB_succ.1 (h.good.all c (by simp))
  obtain ⟨hE, hN, hL⟩ := ext_in (A := A) (B := B) h.nd h.taken hr.ext hr.nd
  obtain ⟨-, hsz, -, hsum⟩ := okB_iff.1 h.ok
  have he : enL (d + 1) (A ++ (c.1, (c.2.1, Lc)) :: B) = enL (d + 1) (A ++ c :: B) := enL_key_page (c := c) (c' := (c.1, (c.2.1, Lc))) rfl rfl
  have hkc : ∀ y ∈ ksB (d + 1) (c.1, (c.2.1, Lc)), y ∈ ksB (d + 1) c := fun y hy => by
    rcases List.mem_cons.1 hy with rfl | hy
    · exact List.mem_cons_self
    · exact List.mem_cons_of_mem _ (hr.ks y hy)
  have hpg : pgL (d + 1) (A ++ (c.1, (c.2.1, Lc)) :: B) = pgL (d + 1) A ++ ((c.2.1 :: pgL d Lc) ++ pgL (d + 1) B) := by rw [pgL_append, pgL_cons]; rfl
  have hgood : GoodB (d + 1) (c.1, (c.2.1, Lc)) := GoodB_succ.2 ⟨hne, hr.ok, fun y hy => hg.2.2.1 y (hr.ks y hy), hr.good⟩
  refine ⟨fun b hb => ?_, good_turn h.good rfl hkc hgood, by rw [hpg]; exact hN, by rw [he]; exact hsz, by rw [he]; exact hsum, by rw [hpg]; exact hE, fun y hy => ?_, ?_⟩
  · rcases List.mem_append.1 hb with hb | hb
    · exact hL b (.inl hb) (h.lies b (by simp [hb]))
    · rcases List.mem_cons.1 hb with rfl | hb
      · refine ⟨?_, hr.lies⟩
        have h1 := hr.pg
        rw [if_neg (by cases Lc with | nil => exact absurd rfl hne | cons _ _ => simp)] at h1
        exact h1
      · exact hL b (.inr hb) (h.lies b (by simp [hb]))
  · rw [ksL_append, ksL_cons] at hy ⊢
    rcases List.mem_append.1 hy with hy | hy
    · exact List.mem_append_left _ hy
    · rcases List.mem_append.1 hy with hy | hy
      · exact List.mem_append_right _ (List.mem_append_left _ (hkc y hy))
      · exact List.mem_append_right _ (List.mem_append_right _ hy)
  · rw [stL_append, stL_cons, stL_append, stL_cons, stB_succ, stB_succ]
    have := hr.st
    show stL (d + 1) A + (max _ (stL d Lc) + stL (d + 1) B) ≤ _
    omega
/-- a page below is empty, and is given back -/
theorem half_gone {A B : List (Bd (d + 1))} {c : Bd (d + 1)} (h : Lay f m S (d + 1) at_ (A ++ c :: B)) (hr : TakeRes f m S S1 d c.2.1 c.2.2 [] key) :
    ∃ S2, relM f m S1 c.2.1 = some S2 ∧ Half f m S S2 d at_ (A ++ c :: B) (A ++ B) := by
  have hE0 : Ext f m S S1 (pgB (d + 1) c) [c.2.1] := hr.ext
  obtain ⟨S2, hrel, hE1⟩ := rel_ext (hE0.taken c.2.1 (by simp))
  obtain ⟨hE, hN, hL⟩ := ext_in (A := A) (B := B) h.nd h.taken (hE0.trans hE1) List.nodup_nil
  obtain ⟨-, hsz, -, hsum⟩ := okB_iff.1 h.ok
  rw [enL_append, enL_cons] at hsz hsum
  have hpg : pgL (d + 1) (A ++ B) = pgL (d + 1) A ++ ([] ++ pgL (d + 1) B) := by rw [pgL_append]; rfl
  obtain ⟨pA, pcB, pAcB⟩ := List.pairwise_append.1 h.good.lt
  refine ⟨S2, hrel, fun b hb => ?_, ⟨List.pairwise_append.2 ⟨pA, (List.pairwise_cons.1 pcB).2, fun a ha b hb => pAcB a ha b (by simp [hb])⟩, fun b hb => ?_⟩, by rw [hpg]; exact hN, fun q hq => ?_, ?_, by rw [hpg]; exact hE, fun y hy => ?_, ?_⟩
  · rcases List.mem_append.1 hb with hb | hb
    · exact hL b (.inl hb) (h.lies b (by simp [hb]))
    · exact hL b (.inr hb) (h.lies b (by simp [hb]))
  · rcases List.mem_append.1 hb with hb | hb
    · exact h.good.all b (by simp [hb])
    · exact h.good.all b (by simp [hb])
  · rw [enL_append] at hq
    rcases List.mem_append.1 hq with hq | hq
    · exact hsz q (by simp [hq])
    · exact hsz q (by simp [hq])
  · rw [enL_append, lSum_append]
    rw [lSum_append] at hsum
    have h3 : lSum (bdE (d + 1) c :: enL (d + 1) B) = (2 + (bdE (d + 1) c).1.size + (bdE (d + 1) c).2.size) + lSum (enL (d + 1) B) := by simp [lSum]
    omega
  · rw [ksL_append] at hy
    rw [ksL_append, ksL_cons]
    rcases List.mem_append.1 hy with hy | hy
    · exact List.mem_append_left _ hy
    · exact List.mem_append_right _ (List.mem_append_right _ hy)
  · rw [stL_append, stL_append, stL_cons]
    omega
theorem half_get {X Y : List (Bd (d + 1))} {x : Bd (d + 1)} : (enL (d + 1) (X ++ x :: Y))[X.length]? = some (bdE (d + 1) x) := by
  have e : (enL (d + 1) X).length = X.length := by unfold enL; simp
  rw [enL_append, enL_cons, List.getElem?_append_right (by omega), e]
  simp
set_option maxHeartbeats 1000000 in
/-- two pages side by side, made one if they fit -/
theorem join_ok (hfm : f + m < 65536) {L0 X Y : List (Bd (d + 1))} {x : Bd (d + 1)} (h : Half f m S0 S d at_ L0 (X ++ x :: Y)) :
    ∃ S' x' Y', joinM f m S (enL (d + 1) (X ++ x :: Y)) X.length = some (S', enL (d + 1) (X ++ x' :: Y')) ∧ Half f m S0 S' d at_ L0 (X ++ x' :: Y') ∧ flL (d + 1) (X ++ x' :: Y') = flL (d + 1) (X ++ x :: Y) := by
  cases Y with
  | nil =>
    refine ⟨S, x, [], ?_, h, rfl⟩
    unfold joinM
    have e : (enL (d + 1) (X ++ [x])).length = X.length + 1 := by unfold enL; simp
    rw [half_get, List.getElem?_eq_none (by omega)]
  | cons y Y =>
    have hg2 : (enL (d + 1) (X ++ x :: y :: Y))[X.length + 1]? = some (bdE (d + 1) y) := by
      have := half_get (X := X ++ [x]) (Y := Y) (x := y)
      rw [List.append_assoc, List.length_append] at this
      exact this
    have hall := h.good.all
    have gx := GoodB_succ.1 (hall x (by simp))
    have gy := GoodB_succ.1 (hall y (by simp))
    have lx := h.lies x (by simp)
    have ly := h.lies y (by simp)
    have tk := h.ext.taken
    have hmx : x.2.1 ∈ pgL (d + 1) (X ++ x :: y :: Y) := List.mem_flatMap.2 ⟨x, by simp, List.mem_cons_self⟩
    have hmy : y.2.1 ∈ pgL (d + 1) (X ++ x :: y :: Y) := List.mem_flatMap.2 ⟨y, by simp, List.mem_cons_self⟩
    have ox := tk x.2.1 (List.mem_cons_of_mem _ hmx)
    have oy := tk y.2.1 (List.mem_cons_of_mem _ hmy)
    have ex : pgN (bdE (d + 1) x).2 = x.2.1 := pgN_at hfm ox
    have ey : pgN (bdE (d + 1) y).2 = y.2.1 := pgN_at hfm oy
    have sx : (bdE (d + 1) x).2.size = 2 := nmB_size _
    have sy : (bdE (d + 1) y).2.size = 2 := nmB_size _
    have dx : loadM S x.2.1 = some (kd d, enL d x.2.2) := loadM_of lx.1 fun _ => gx.1
    have dy : loadM S y.2.1 = some (kd d, enL d y.2.2) := loadM_of ly.1 fun _ => gy.1
    have hyne : ¬ enL d y.2.2 = [] := fun e => gy.1 (by unfold enL at e; simpa using e)
    by_cases hsz : 256 < lSize (enL d x.2.2 ++ enL d y.2.2)
    · refine ⟨S, x, y :: Y, ?_, h, rfl⟩
      unfold joinM
      rw [half_get, hg2]
      simp only
      rw [if_neg (by omega), ex, ey, dx, dy]
      simp only [Option.bind_some]
      rw [if_neg hyne, if_pos hsz]
    · -- the two together
      have pw := (List.pairwise_append.1 h.good.lt).2.1
      obtain ⟨px, pw2⟩ := List.pairwise_cons.1 pw
      obtain ⟨py, pY⟩ := List.pairwise_cons.1 pw2
      have hxy : ltK (d + 1) x y := px y (by simp)
      have hgl : GoodL d (x.2.2 ++ y.2.2) := by
        refine ⟨List.pairwise_append.2 ⟨gx.2.2.2.lt, gy.2.2.2.lt, fun a ha b hb k hk => ?_⟩, fun b hb => ?_⟩
        · have h1 : ltB k y.1 = true := hxy k (List.mem_cons_of_mem _ (List.mem_flatMap.2 ⟨a, ha, hk⟩))
          exact ltB_lt_le h1 (gy.2.2.1 _ (List.mem_flatMap.2 ⟨b, hb, bdK_mem b⟩))
        · rcases List.mem_append.1 hb with hb | hb
          · exact gx.2.2.2.all b hb
          · exact gy.2.2.2.all b hb
      obtain ⟨-, zx, -, -⟩ := okB_iff.1 gx.2.1
      obtain ⟨-, zy, -, -⟩ := okB_iff.1 gy.2.1
      have hok : okB (kd d) (enL d (x.2.2 ++ y.2.2)) = true := by
        refine okB_iff.2 ⟨kd_or d, fun q hq => ?_, enL_asc hgl, ?_⟩
        · rw [enL_append] at hq
          rcases List.mem_append.1 hq with hq | hq
          · exact zx q hq
          · exact zy q hq
        · rw [enL_append]
          unfold lSize at hsz
          omega
      have hkx : ∀ z ∈ ksL d y.2.2, ltB z x.1 = false := fun z hz => by
        have h1 : ltB x.1 y.1 = true := hxy x.1 List.mem_cons_self
        exact ltB_asymm (ltB_lt_le h1 (gy.2.2.1 z hz))
      have hgx : GoodB (d + 1) (x.1, (x.2.1, x.2.2 ++ y.2.2)) := by
        refine GoodB_succ.2 ⟨by simp [gx.1], hok, fun z hz => ?_, hgl⟩
        rw [ksL_append] at hz
        rcases List.mem_append.1 hz with hz | hz
        · exact gx.2.2.1 z hz
        · exact hkx z hz
      -- the pages
      obtain ⟨Q, hQ⟩ : ∃ Q, at_ :: pgL (d + 1) (X ++ (x.1, (x.2.1, x.2.2 ++ y.2.2)) :: Y) = Q := ⟨_, rfl⟩
      have hperm : (at_ :: pgL (d + 1) (X ++ x :: y :: Y)).Perm (y.2.1 :: Q) := by
        rw [← hQ, pgL_append, pgL_append, pgL_cons, pgL_cons, pgL_cons, pgB_succ, pgB_succ, pgB_succ]
        show (at_ :: (pgL (d + 1) X ++ ((x.2.1 :: pgL d x.2.2) ++ ((y.2.1 :: pgL d y.2.2) ++ pgL (d + 1) Y)))).Perm (y.2.1 :: at_ :: (pgL (d + 1) X ++ ((x.2.1 :: pgL d (x.2.2 ++ y.2.2)) ++ pgL (d + 1) Y)))
        rw [pgL_append]
        have := List.perm_middle (a := y.2.1) (l₁ := at_ :: (pgL (d + 1) X ++ (x.2.1 :: pgL d x.2.2))) (l₂ := pgL d y.2.2 ++ pgL (d + 1) Y)
        simpa using this
      have hndP := hperm.nodup h.nd
      obtain ⟨nyQ, ndQ⟩ := List.nodup_cons.1 hndP
      have hxQ : x.2.1 ∈ Q := by rw [← hQ]; refine List.mem_cons_of_mem _ (List.mem_flatMap.2 ⟨_, List.mem_append_right _ List.mem_cons_self, List.mem_cons_self⟩)
      have hxy1 : y.2.1 ≠ x.2.1 := fun e => nyQ (e ▸ hxQ)
      obtain ⟨S1, hst, hE1, hp1⟩ := store_ext ox hok
      have hpx := List.perm_cons_erase (hperm.mem_iff.2 (List.mem_cons_of_mem _ hxQ))
      have F1 : Ext f m S S1 (at_ :: pgL (d + 1) (X ++ x :: y :: Y)) (at_ :: pgL (d + 1) (X ++ x :: y :: Y)) := by
        have := hE1.frame (R := (at_ :: pgL (d + 1) (X ++ x :: y :: Y)).erase x.2.1) fun k hk => ⟨tk k (List.mem_of_mem_erase hk), fun hh => by
          rw [List.mem_singleton] at hh
          rw [hh] at hk
          exact (List.nodup_cons.1 (hpx.nodup h.nd)).1 hk⟩
        exact this.perm hpx.symm hpx.symm
      have tk1 := F1.taken
      obtain ⟨S2, hrel, hE2⟩ := rel_ext (tk1 y.2.1 (List.mem_cons_of_mem _ hmy))
      have hQok : ∀ k ∈ Q, okM f m S1 k = true ∧ k ∉ [y.2.1] := fun k hk => ⟨tk1 k (hperm.mem_iff.2 (List.mem_cons_of_mem _ hk)), fun hh => by
        rw [List.mem_singleton] at hh
        exact nyQ (hh ▸ hk)⟩
      have F2 : Ext f m S S2 (at_ :: pgL (d + 1) (X ++ x :: y :: Y)) Q := F1.trans ((hE2.frame hQok).perm hperm.symm (.refl _))
      have hsame : ∀ k, k ∈ at_ :: pgL (d + 1) (X ++ x :: y :: Y) → k ≠ x.2.1 → k ≠ y.2.1 → S2.pg k = S.pg k := fun k hk h1 h2 => by
        rw [(hE2.apart (tk1 k hk) (by simp [h2])).2.2, (hE1.apart (tk k hk) (by simp [h1])).2.2]
      have ndL := (List.nodup_cons.1 h.nd).2
      have hne : ∀ b ∈ X ++ x :: y :: Y, ∀ k ∈ pgB (d + 1) b, k = x.2.1 ∨ k = y.2.1 → b = x ∨ b = y := by
        rw [pgL_append, pgL_cons, pgL_cons] at ndL
        obtain ⟨a1, a2, a3⟩ := List.nodup_append.1 ndL
        obtain ⟨b1, b2, b3⟩ := List.nodup_append.1 a2
        obtain ⟨c1, c2, c3⟩ := List.nodup_append.1 b2
        intro b hb k hk hkk
        rcases List.mem_append.1 hb with hb | hb
        · have hkX : k ∈ pgL (d + 1) X := List.mem_flatMap.2 ⟨b, hb, hk⟩
          rcases hkk with e | e
          · exact absurd rfl (a3 k hkX k (by rw [e]; exact List.mem_append_left _ List.mem_cons_self))
          · exact absurd rfl (a3 k hkX k (by rw [e]; exact List.mem_append_right _ (List.mem_append_left _ List.mem_cons_self)))
        · rcases List.mem_cons.1 hb with rfl | hb
          · exact .inl rfl
          · rcases List.mem_cons.1 hb with rfl | hb
            · exact .inr rfl
            · have hkY : k ∈ pgL (d + 1) Y := List.mem_flatMap.2 ⟨b, hb, hk⟩
              rcases hkk with e | e
              · exact absurd e (fun e => b3 x.2.1 List.mem_cons_self k (List.mem_append_right _ hkY) e.symm)
              · exact absurd e (fun e => c3 y.2.1 List.mem_cons_self k hkY e.symm)
      have hlow : ∀ z, z = x ∨ z = y → ∀ k ∈ pgL d z.2.2, k ≠ x.2.1 ∧ k ≠ y.2.1 := by
        rw [pgL_append, pgL_cons, pgL_cons] at ndL
        obtain ⟨a1, a2, a3⟩ := List.nodup_append.1 ndL
        obtain ⟨b1, b2, b3⟩ := List.nodup_append.1 a2
        obtain ⟨c1, c2, c3⟩ := List.nodup_append.1 b2
        rw [pgB_succ] at b1 b3 c1
        rintro z (rfl | rfl) k hk
        · exact ⟨fun e => (List.nodup_cons.1 b1).1 (e ▸ hk), fun e => b3 k (List.mem_cons_of_mem _ hk) k (by rw [e]; exact List.mem_append_left _ List.mem_cons_self) rfl⟩
        · exact ⟨fun e => b3 x.2.1 List.mem_cons_self k (List.mem_append_left _ (List.mem_cons_of_mem _ hk)) e.symm, fun e => (List.nodup_cons.1 c1).1 (e ▸ hk)⟩
      have hin : ∀ z, z = x ∨ z = y → ∀ k ∈ pgL d z.2.2, k ∈ at_ :: pgL (d + 1) (X ++ x :: y :: Y) := fun z hz k hk => by
        refine List.mem_cons_of_mem _ (List.mem_flatMap.2 ⟨z, ?_, List.mem_cons_of_mem _ hk⟩)
        rcases hz with rfl | rfl <;> simp
      have hX : (enL (d + 1) X).length = X.length := by unfold enL; simp
      have eOld : enL (d + 1) (X ++ x :: y :: Y) = enL (d + 1) X ++ (bdE (d + 1) x :: bdE (d + 1) y :: enL (d + 1) Y) := by rw [enL_append, enL_cons, enL_cons]
      have eNew : enL (d + 1) (X ++ (x.1, (x.2.1, x.2.2 ++ y.2.2)) :: Y) = enL (d + 1) X ++ (bdE (d + 1) x :: enL (d + 1) Y) := by rw [enL_append, enL_cons]; rfl
      have hkk : ∀ z ∈ ksB (d + 1) (x.1, (x.2.1, x.2.2 ++ y.2.2)), z ∈ ksB (d + 1) x ∨ z ∈ ksB (d + 1) y := fun z hz => by
        rcases List.mem_cons.1 hz with rfl | hz
        · exact .inl List.mem_cons_self
        · have hz2 : z ∈ ksL d (x.2.2 ++ y.2.2) := hz
          rw [ksL_append] at hz2
          rcases List.mem_append.1 hz2 with hz | hz
          · exact .inl (List.mem_cons_of_mem _ hz)
          · exact .inr (List.mem_cons_of_mem _ hz)
      refine ⟨S2, (x.1, (x.2.1, x.2.2 ++ y.2.2)), Y, ?_, ⟨fun b hb => ?_, ⟨?_, fun b hb => ?_⟩, ?_, fun q hq => ?_, ?_, ?_, fun z hz => ?_, ?_⟩, ?_⟩
      · unfold joinM
        rw [half_get, hg2]
        simp only
        rw [if_neg (by omega), ex, ey, dx, dy]
        simp only [Option.bind_some]
        rw [if_neg hyne, if_neg hsz, ← enL_append, hst]
        simp only [Option.bind_some]
        rw [hrel, eNew, eOld]
        simp only [Option.map_some]
        congr 2
        have e1 : (enL (d + 1) X ++ (bdE (d + 1) x :: bdE (d + 1) y :: enL (d + 1) Y)).take (X.length + 1) = enL (d + 1) X ++ [bdE (d + 1) x] := by
          rw [List.take_append, hX, List.take_of_length_le (by omega), show X.length + 1 - X.length = 1 by omega]; rfl
        have e2 : (enL (d + 1) X ++ (bdE (d + 1) x :: bdE (d + 1) y :: enL (d + 1) Y)).drop (X.length + 1 + 1) = enL (d + 1) Y := by
          rw [List.drop_append, hX, List.drop_of_length_le (by omega), show X.length + 1 + 1 - X.length = 2 by omega]; rfl
        rw [e1, e2, List.append_assoc]
        rfl
      · rcases List.mem_append.1 hb with hbX | hb
        · refine lies_congr (h.lies b (by simp [hbX])) fun k hk => hsame k (List.mem_cons_of_mem _ (List.mem_flatMap.2 ⟨b, by simp [hbX], hk⟩)) (fun e => ?_) fun e => ?_
          · have := (List.pairwise_append.1 h.good.lt).2.2 b hbX
            rcases hne b (by simp [hbX]) k hk (.inl e) with rfl | rfl
            · exact absurd (this b (by simp) _ (bdK_mem b)) (by rw [ltB_irrefl]; simp)
            · exact absurd (this b (by simp) _ (bdK_mem b)) (by rw [ltB_irrefl]; simp)
          · have := (List.pairwise_append.1 h.good.lt).2.2 b hbX
            rcases hne b (by simp [hbX]) k hk (.inr e) with rfl | rfl
            · exact absurd (this b (by simp) _ (bdK_mem b)) (by rw [ltB_irrefl]; simp)
            · exact absurd (this b (by simp) _ (bdK_mem b)) (by rw [ltB_irrefl]; simp)
        · rcases List.mem_cons.1 hb with rfl | hbY
          · refine ⟨?_, fun b hb => ?_⟩
            · rw [(hE2.apart (tk1 x.2.1 (List.mem_cons_of_mem _ hmx)) (by simp [hxy1.symm])).2.2]
              exact hp1
            · rcases List.mem_append.1 hb with hb | hb
              · exact lies_congr (lx.2 b hb) fun k hk => by
                  have hk2 : k ∈ pgL d x.2.2 := List.mem_flatMap.2 ⟨b, hb, hk⟩
                  exact hsame k (hin x (.inl rfl) k hk2) (hlow x (.inl rfl) k hk2).1 (hlow x (.inl rfl) k hk2).2
              · exact lies_congr (ly.2 b hb) fun k hk => by
                  have hk2 : k ∈ pgL d y.2.2 := List.mem_flatMap.2 ⟨b, hb, hk⟩
                  exact hsame k (hin y (.inr rfl) k hk2) (hlow y (.inr rfl) k hk2).1 (hlow y (.inr rfl) k hk2).2
          · refine lies_congr (h.lies b (by simp [hbY])) fun k hk => hsame k (List.mem_cons_of_mem _ (List.mem_flatMap.2 ⟨b, by simp [hbY], hk⟩)) (fun e => ?_) fun e => ?_
            · rcases hne b (by simp [hbY]) k hk (.inl e) with rfl | rfl
              · exact absurd (px b (by simp [hbY]) _ (bdK_mem b)) (by rw [ltB_irrefl]; simp)
              · exact absurd (py b hbY _ (bdK_mem b)) (by rw [ltB_irrefl]; simp)
            · rcases hne b (by simp [hbY]) k hk (.inr e) with rfl | rfl
              · exact absurd (px b (by simp [hbY]) _ (bdK_mem b)) (by rw [ltB_irrefl]; simp)
              · exact absurd (py b hbY _ (bdK_mem b)) (by rw [ltB_irrefl]; simp)
      · refine List.pairwise_append.2 ⟨(List.pairwise_append.1 h.good.lt).1, .cons (fun b hb z hz => ?_) pY, fun a ha b hb => ?_⟩
        · rcases hkk z hz with hz | hz
          · exact px b (by simp [hb]) z hz
          · exact py b hb z hz
        · have h1 := (List.pairwise_append.1 h.good.lt).2.2 a ha
          rcases List.mem_cons.1 hb with rfl | hb
          · exact h1 x (by simp)
          · exact h1 b (by simp [hb])
      · rcases List.mem_append.1 hb with hb | hb
        · exact hall b (by simp [hb])
        · rcases List.mem_cons.1 hb with rfl | hb
          · exact hgx
          · exact hall b (by simp [hb])
      · rw [hQ]; exact ndQ
      · rw [eNew] at hq
        refine h.size q ?_
        rw [eOld]
        simp at hq ⊢
        rcases hq with hq | hq | hq
        · exact .inl hq
        · exact .inr (.inl hq)
        · exact .inr (.inr (.inr hq))
      · have := h.sum
        rw [eOld] at this
        rw [eNew]
        rw [lSum_append] at this ⊢
        simp only [lSum, List.map_cons, List.sum_cons] at this ⊢
        omega
      · rw [hQ]; exact h.ext.trans F2
      · refine h.ks z ?_
        rw [ksL_append, ksL_cons] at hz
        rw [ksL_append, ksL_cons, ksL_cons]
        rcases List.mem_append.1 hz with hz | hz
        · exact List.mem_append_left _ hz
        · rcases List.mem_append.1 hz with hz | hz
          · rcases hkk z hz with hz | hz
            · exact List.mem_append_right _ (List.mem_append_left _ hz)
            · exact List.mem_append_right _ (List.mem_append_right _ (List.mem_append_left _ hz))
          · exact List.mem_append_right _ (List.mem_append_right _ (List.mem_append_right _ hz))
      · refine Nat.le_trans ?_ h.st
        rw [stL_append, stL_append, stL_cons, stL_cons, stL_cons, stB_succ, stB_succ, stB_succ]
        show stL (d + 1) X + (max _ (stL d (x.2.2 ++ y.2.2)) + stL (d + 1) Y) ≤ _
        rw [stL_append]
        omega
      · rw [flL_append, flL_append, flL_cons, flL_cons, flL_cons, flB_succ, flB_succ, flB_succ]
        show flL (d + 1) X ++ (flL d (x.2.2 ++ y.2.2) ++ flL (d + 1) Y) = _
        rw [flL_append, List.append_assoc]
/-- the page is written -/
theorem half_done {L0 L : List (Bd (d + 1))} (h : Half f m S0 S d at_ L0 L) (hf : flL (d + 1) L = takeL (flL (d + 1) L0) key) :
    ∃ S', storeM f m S at_ (if L.isEmpty then 1 else 2) (enL (d + 1) L) = some S' ∧ TakeRes f m S0 S' (d + 1) at_ L0 L key := by
  have hok2 : okB 2 (enL (d + 1) L) = true := okB_iff.2 ⟨.inr rfl, h.size, enL_asc h.good, h.sum⟩
  have hok : okB (if L.isEmpty then 1 else 2) (enL (d + 1) L) = true := by
    split
    · exact okB_iff.2 ⟨.inl rfl, h.size, enL_asc h.good, h.sum⟩
    · exact hok2
  obtain ⟨S', hst, hE, hp⟩ := store_ext (h.ext.taken at_ List.mem_cons_self) hok
  have hnat := (List.nodup_cons.1 h.nd).1
  have hsub : ∀ k ∈ pgL (d + 1) L, okM f m S k = true ∧ k ∉ [at_] := fun k hk => ⟨h.ext.taken k (List.mem_cons_of_mem _ hk), fun hh => hnat (by rw [List.mem_singleton] at hh; rwa [hh] at hk)⟩
  have hE2 : Ext f m S S' (at_ :: pgL (d + 1) L) (at_ :: pgL (d + 1) L) := hE.frame (R := pgL (d + 1) L) hsub
  exact ⟨S', hst, ⟨hp, hok2, h.lies.ext hE hsub, h.good, h.nd, h.ext.trans hE2, hf, h.ks, h.st⟩⟩
end
end
/-! TTakeL2 -/
section
set_option linter.unusedSimpArgs false
set_option linter.unusedVariables false
open Go.RowKit Go.Maps Go.Shelf

def TakeOK (f m : Nat) (key : ByteArray) (d : Nat) : Prop :=
  ∀ (fuel : Nat) (S : TS) (at_ : Nat) (L : List (Bd d)), d < fuel → Lay f m S d at_ L → (d ≠ 0 → L ≠ []) →
    (hasL (flL d L) key = false ∧ takeM f m key fuel S at_ = some (S, L.length, false)) ∨
    (hasL (flL d L) key = true ∧ ∃ S' L', takeM f m key fuel S at_ = some (S', L'.length, true) ∧ TakeRes f m S S' d at_ L L' key)
section
variable {f m root d at_ : Nat} {S S0 S1 S2 : TS} {key : ByteArray}
theorem pgL_zero (M : List (Bd 0)) : pgL 0 M = [] := by unfold pgL; rw [List.flatMap_eq_nil_iff]; intro x _; rfl
theorem ksL_zero (M : List (Bd 0)) : ksL 0 M = M.map (·.1) := by
  unfold ksL
  have e : ksB 0 = fun e : Bd 0 => [e.1] := rfl
  rw [e]
  induction M with
  | nil => rfl
  | cons x r ih => rw [List.flatMap_cons, ih]; rfl
theorem lSum_filter (p : Ent → Bool) : ∀ l : List Ent, lSum (l.filter p) ≤ lSum l
  | [] => Nat.le_refl _
  | q :: r => by
    have ih := lSum_filter p r
    rw [List.filter_cons]
    split
    · simp only [lSum, List.map_cons, List.sum_cons] at ih ⊢; omega
    · simp only [lSum, List.map_cons, List.sum_cons] at ih ⊢; omega
theorem take_zero : TakeOK f m key 0 := by
  intro fuel S at_ L hf h hne
  obtain ⟨fuel, rfl⟩ : ∃ k, fuel = k + 1 := ⟨fuel - 1, by omega⟩
  obtain ⟨-, hs, ha, hl⟩ := okB_iff.1 h.ok
  rw [enL_zero] at hs ha hl
  have hlo := loadM_lay h (fun h0 => absurd rfl h0)
  rw [enL_zero] at hlo
  have hh : lHas L key = hasL L key := lHas_eq ha key
  rw [flL_zero]
  have ht : takeM f m key (fuel + 1) S at_ = if lHas L key then (storeM f m S at_ 1 (lTake L key)).map fun S1 => (S1, (lTake L key).length, true) else some (S, L.length, false) := by
    unfold takeM
    rw [hlo]
    rfl
  cases hc : hasL L key with
  | false =>
    refine .inl ⟨rfl, ?_⟩
    rw [ht, hh, hc]; rfl
  | true =>
    refine .inr ⟨rfl, ?_⟩
    rw [lTake_eq ha key] at ht
    obtain ⟨T, hT⟩ : ∃ T, takeL L key = T := ⟨_, rfl⟩
    have hm : ∀ q ∈ T, q ∈ L := fun q hq => by rw [← hT] at hq; exact takeL_mem hq
    have hTa : ascP T := by rw [← hT]; exact takeL_asc ha key
    have hTs : lSum T ≤ lSum L := by rw [← hT]; exact lSum_filter _ L
    have hok : okB 1 T = true := okB_iff.2 ⟨.inl rfl, fun q hq => hs q (hm q hq), hTa, by omega⟩
    obtain ⟨S', hst, hE, hp⟩ := store_ext (h.taken at_ List.mem_cons_self) hok
    rw [hT, hh, hc] at ht
    refine ⟨S', T, ?_, ?_⟩
    · rw [ht, if_pos rfl, hst]; rfl
    · refine ⟨?_, ?_, fun b _ => trivial, ⟨?_, fun b hb => h.good.all b (hm b hb)⟩, ?_, ?_, ?_, fun y hy => ?_, ?_⟩
      · rw [hp, enL_zero]
        show some (1, T) = some (if T.isEmpty then 1 else 1, T)
        rw [ite_self]
      · rw [enL_zero]; exact hok
      · exact hTa.imp fun {a b} hab y hy => by
          have : y = a.1 := List.mem_singleton.1 hy
          rw [this]; exact hab
      · rw [pgL_zero]; simp
      · rw [pgL_zero, pgL_zero]; exact hE
      · rw [flL_zero, flL_zero, hT]
      · rw [ksL_zero] at hy ⊢
        obtain ⟨q, hq, rfl⟩ := List.mem_map.1 hy
        exact List.mem_map_of_mem (hm q hq)
      · rw [stL_zero, stL_zero]; exact hTs
theorem fin_take (L : List (Bd (d + 1))) : (if enL (d + 1) L = [] then (storeM f m S at_ 1 []).map fun S2 => (S2, 0, true) else (storeM f m S at_ 2 (enL (d + 1) L)).map fun S2 => (S2, (enL (d + 1) L).length, true)) = (storeM f m S at_ (if L.isEmpty then 1 else 2) (enL (d + 1) L)).map fun S2 => (S2, L.length, true) := by
  cases L with
  | nil => rfl
  | cons b L =>
    rw [if_neg (by rw [enL_cons]; simp)]
    have : (enL (d + 1) (b :: L)).length = (b :: L).length := by unfold enL; simp
    rw [this]
    rfl
set_option maxHeartbeats 1000000 in
theorem take_succ (hT : TakeOK f m key d) (hfm : f + m < 65536) : TakeOK f m key (d + 1) := by
  intro fuel S at_ L hf h hne
  obtain ⟨fuel, rfl⟩ : ∃ k, fuel = k + 1 := ⟨fuel - 1, by omega⟩
  have hne := hne (by omega)
  obtain ⟨A, c, B, rfl, hix, hB, hA⟩ := child_split (enL_asc h.good) hne key
  obtain ⟨hl, hcne⟩ := h.child
  have hlo := loadM_lay h fun _ => hne
  have hget : (enL (d + 1) (A ++ c :: B))[cIx (enL (d + 1) (A ++ c :: B)) key]? = some (bdE (d + 1) c) := by rw [hix]; exact half_get
  have hsz : ¬ (bdE (d + 1) c).2.size < 2 := by
    have : (bdE (d + 1) c).2.size = 2 := nmB_size _
    omega
  have hpg : pgN (bdE (d + 1) c).2 = c.2.1 := pgN_at hfm (hl.taken c.2.1 List.mem_cons_self)
  obtain ⟨gA, gcB⟩ := h.good.sub_append
  have gB : GoodL (d + 1) B := (show GoodL (d + 1) ([c] ++ B) from gcB).sub_append.2
  have pAc : ∀ a ∈ A, ltK (d + 1) a c := fun a ha => (List.pairwise_append.1 h.good.lt).2.2 a ha c (by simp)
  have hAk : ∀ q ∈ flL (d + 1) A, ltB q.1 key = true := fun q hq => by
    rcases hA with h1 | h1
    · rw [h1] at hq; cases hq
    · obtain ⟨a, ha, hq⟩ := List.mem_flatMap.1 hq
      exact ltB_lt_le (pAc a ha _ (fl_ks hq)) h1
  have hBk : ∀ q ∈ flL (d + 1) B, ltB key q.1 = true := fun q hq => by
    obtain ⟨b, hb, hq⟩ := List.mem_flatMap.1 hq
    exact ltB_lt_le (hB b hb) (ks_ge (gB.all b hb) _ (fl_ks hq))
  have hfl : flL (d + 1) (A ++ c :: B) = flL (d + 1) A ++ flL d c.2.2 ++ flL (d + 1) B := by rw [flL_append, flL_cons, flB_succ, List.append_assoc]
  have hh : hasL (flL (d + 1) (A ++ c :: B)) key = hasL (flL d c.2.2) key := by rw [hfl]; exact hasL_mid hAk hBk
  have htk : takeL (flL (d + 1) (A ++ c :: B)) key = flL (d + 1) A ++ takeL (flL d c.2.2) key ++ flL (d + 1) B := by rw [hfl]; exact takeL_mid hAk hBk
  have hlen : (enL (d + 1) (A ++ c :: B)).length = (A ++ c :: B).length := by unfold enL; simp
  have hAl : (enL (d + 1) A).length = A.length := by unfold enL; simp
  have hstep : takeM f m key (fuel + 1) S at_ = (takeM f m key fuel S c.2.1).bind fun r =>
        if r.2.2 = false then some (r.1, (enL (d + 1) (A ++ c :: B)).length, false)
        else (if r.2.1 = 0 then (relM f m r.1 c.2.1).map fun S1 => (S1, (enL (d + 1) (A ++ c :: B)).take A.length ++ (enL (d + 1) (A ++ c :: B)).drop (A.length + 1))
              else (joinM f m r.1 (enL (d + 1) (A ++ c :: B)) A.length).bind fun j1 => if A.length = 0 then some j1 else joinM f m j1.1 j1.2 (A.length - 1)).bind fun j =>
          if j.2 = [] then (storeM f m j.1 at_ 1 []).map fun S2 => (S2, 0, true)
          else (storeM f m j.1 at_ 2 j.2).map fun S2 => (S2, j.2.length, true) := by
    rw [takeM, hlo]
    simp only [Option.bind_some]
    rw [if_neg (by show ¬ kd (d + 1) = 1; simp [kd]), hget]
    simp only
    rw [if_neg hsz, hpg, hix, show kd (d + 1) = 2 from rfl]
  rcases hT fuel S c.2.1 c.2.2 (by omega) hl (fun _ => hcne) with ⟨h1, h2⟩ | ⟨h1, S1, Lc, h2, hr⟩
  · refine .inl ⟨hh.trans h1, ?_⟩
    rw [hstep, h2]
    simp only [Option.bind_some]
    rw [if_pos trivial, hlen]
  · refine .inr ⟨hh.trans h1, ?_⟩
    rw [hstep, h2]
    simp only [Option.bind_some]
    rw [if_neg (by simp)]
    by_cases hLc : Lc = []
    · subst hLc
      obtain ⟨S2, hrel, hH⟩ := half_gone h hr
      have hf2 : flL (d + 1) (A ++ B) = takeL (flL (d + 1) (A ++ c :: B)) key := by
        rw [htk, ← hr.fl, flL_append]
        show _ = flL (d + 1) A ++ [] ++ flL (d + 1) B
        rw [List.append_nil]
      obtain ⟨S', hst, hres⟩ := half_done hH hf2
      refine ⟨S', A ++ B, ?_, hres⟩
      have e1 : (enL (d + 1) (A ++ c :: B)).take A.length ++ (enL (d + 1) (A ++ c :: B)).drop (A.length + 1) = enL (d + 1) (A ++ B) := by
        rw [enL_append, enL_cons, List.take_left' hAl, List.drop_append, hAl, List.drop_of_length_le (by omega), show A.length + 1 - A.length = 1 by omega, enL_append]
        rfl
      rw [if_pos (by rfl), hrel, e1]
      simp only [Option.map_some, Option.bind_some]
      rw [fin_take, hst]
      rfl
    · have hH := half_child h hr hLc
      have hl0 : ¬ Lc.length = 0 := fun e => hLc (List.length_eq_zero_iff.1 e)
      have he : enL (d + 1) (A ++ (c.1, (c.2.1, Lc)) :: B) = enL (d + 1) (A ++ c :: B) := enL_key_page (c := c) (c' := (c.1, (c.2.1, Lc))) rfl rfl
      have hf2 : flL (d + 1) (A ++ (c.1, (c.2.1, Lc)) :: B) = takeL (flL (d + 1) (A ++ c :: B)) key := by
        rw [htk, ← hr.fl, flL_append, flL_cons, flB_succ, List.append_assoc]
      obtain ⟨S2, x', Y', hj, hH2, hf3⟩ := join_ok hfm hH
      rw [he] at hj
      rw [if_neg hl0, hj]
      simp only [Option.bind_some]
      by_cases hA0 : A.length = 0
      · obtain ⟨S', hst, hres⟩ := half_done hH2 (hf3.trans hf2)
        refine ⟨S', A ++ x' :: Y', ?_, hres⟩
        rw [if_pos hA0]
        simp only [Option.bind_some]
        rw [fin_take, hst]
        rfl
      · have hAne : A ≠ [] := fun e => hA0 (by rw [e]; rfl)
        obtain ⟨A0, a, hAa⟩ : ∃ A0 a, A = A0 ++ [a] := ⟨A.dropLast, A.getLast hAne, (List.dropLast_concat_getLast hAne).symm⟩
        have eL : A ++ x' :: Y' = A0 ++ a :: (x' :: Y') := by rw [hAa, List.append_assoc]; rfl
        have eI : A.length - 1 = A0.length := by rw [hAa]; simp
        rw [eL] at hH2 hf3
        obtain ⟨S3, a', Y2, hj2, hH3, hf4⟩ := join_ok hfm hH2
        obtain ⟨S', hst, hres⟩ := half_done hH3 (hf4.trans (hf3.trans hf2))
        refine ⟨S', A0 ++ a' :: Y2, ?_, hres⟩
        rw [if_neg hA0, eL, eI, hj2]
        simp only [Option.bind_some]
        rw [fin_take, hst]
        rfl
theorem take_ok (hfm : f + m < 65536) : ∀ d, TakeOK f m key d
  | 0 => take_zero
  | d + 1 => take_succ (take_ok hfm d) hfm
/-- the root's only child takes its place, again and again -/
def colM (f m root : Nat) : Nat → TS → Option TS
  | 0, _ => none
  | k + 1, S => (loadM S root).bind fun p => if p.1 = 1 ∨ p.2.length ≠ 1 then some S else match p.2 with
    | [] => none
    | e :: _ => if e.2.size < 2 then none else (loadM S (pgN e.2)).bind fun c => (storeM f m S root c.1 c.2).bind fun S1 => (relM f m S1 (pgN e.2)).bind fun S2 => colM f m root k S2
def delM (f m root : Nat) (key : ByteArray) (S : TS) : Option (TS × Bool) :=
  (takeM f m key 66 S root).bind fun r => if r.2.2 then (colM f m root 66 r.1).map fun S2 => (S2, true) else some (r.1, false)
theorem col_ok (hfm : f + m < 65536) : ∀ (d fuel : Nat) (S : TS) (L : List (Bd d)), d < fuel → Lay f m S d root L → (d ≠ 0 → L ≠ []) →
    ∃ S' d' L', colM f m root fuel S = some S' ∧ Tree f m S' root d' L' ∧ Ext f m S S' (root :: pgL d L) (root :: pgL d' L') ∧ flL d' L' = flL d L ∧ stL d' L' ≤ stL d L
  | 0, fuel, S, L, hf, h, _ => by
    obtain ⟨fuel, rfl⟩ : ∃ k, fuel = k + 1 := ⟨fuel - 1, by omega⟩
    refine ⟨S, 0, L, ?_, ⟨h, fun h0 => absurd rfl h0⟩, Ext.refl h.taken, rfl, Nat.le_refl _⟩
    unfold colM
    rw [loadM_lay h fun h0 => absurd rfl h0]
    simp only [Option.bind_some]
    rw [if_pos (.inl rfl)]
  | d + 1, fuel, S, L, hf, h, hne => by
    obtain ⟨fuel, rfl⟩ : ∃ k, fuel = k + 1 := ⟨fuel - 1, by omega⟩
    have hne := hne (by omega)
    have hlo := loadM_lay h fun _ => hne
    have hlen : (enL (d + 1) L).length = L.length := by unfold enL; simp
    by_cases h1 : L.length = 1
    · obtain ⟨c, rfl⟩ : ∃ c, L = [c] := List.length_eq_one_iff.1 h1
      obtain ⟨hl, hcne⟩ := (show Lay f m S (d + 1) root ([] ++ c :: []) from h).child
      have hg := GoodB_succ.1 (h.good.all c (by simp))
      have hpg : pgN (bdE (d + 1) c).2 = c.2.1 := pgN_at hfm (hl.taken c.2.1 List.mem_cons_self)
      have hsz : ¬ (bdE (d + 1) c).2.size < 2 := by
        have : (bdE (d + 1) c).2.size = 2 := nmB_size _
        omega
      have hpL : pgL (d + 1) [c] = c.2.1 :: pgL d c.2.2 := by show (c.2.1 :: pgL d c.2.2) ++ [] = _; rw [List.append_nil]
      have hnd := h.nd
      rw [hpL] at hnd
      have htk := h.taken
      rw [hpL] at htk
      obtain ⟨n1, n2⟩ := List.nodup_cons.1 hnd
      obtain ⟨n3, n4⟩ := List.nodup_cons.1 n2
      obtain ⟨S1, hst, hE1, hp1⟩ := store_ext (htk root List.mem_cons_self) hg.2.1
      have hR1 : ∀ k ∈ c.2.1 :: pgL d c.2.2, okM f m S k = true ∧ k ∉ [root] := fun k hk => ⟨htk k (List.mem_cons_of_mem _ hk), fun hh => n1 (by rw [List.mem_singleton] at hh; rwa [hh] at hk)⟩
      have F1 : Ext f m S S1 (root :: c.2.1 :: pgL d c.2.2) (root :: c.2.1 :: pgL d c.2.2) := hE1.frame hR1
      have tk1 := F1.taken
      obtain ⟨S2, hrel, hE2⟩ := rel_ext (tk1 c.2.1 (by simp))
      have hR2 : ∀ k ∈ root :: pgL d c.2.2, okM f m S1 k = true ∧ k ∉ [c.2.1] := fun k hk => by
        rcases List.mem_cons.1 hk with rfl | hk
        · exact ⟨tk1 k List.mem_cons_self, fun hh => n1 (by rw [List.mem_singleton] at hh; rw [hh]; exact List.mem_cons_self)⟩
        · exact ⟨tk1 k (List.mem_cons_of_mem _ (List.mem_cons_of_mem _ hk)), fun hh => n3 (by rw [List.mem_singleton] at hh; rwa [hh] at hk)⟩
      have F2 : Ext f m S S2 (root :: c.2.1 :: pgL d c.2.2) (root :: pgL d c.2.2) := F1.trans ((hE2.frame hR2).perm (List.Perm.swap _ _ _) (.refl _))
      have nd2 : (root :: pgL d c.2.2).Nodup := List.nodup_cons.2 ⟨fun hh => n1 (List.mem_cons_of_mem _ hh), n4⟩
      have hlay : Lay f m S2 d root c.2.2 := by
        refine ⟨?_, hg.2.1, ?_, hg.2.2.2, nd2, F2.taken⟩
        · rw [(hE2.apart (tk1 root List.mem_cons_self) (fun hh => n1 (by rw [List.mem_singleton] at hh; rw [hh]; exact List.mem_cons_self))).2.2]
          exact hp1
        · exact ((hl.lies).ext hE1 fun k hk => hR1 k (List.mem_cons_of_mem _ hk)).ext hE2 fun k hk => hR2 k (List.mem_cons_of_mem _ hk)
      obtain ⟨S', d', L', hc1, hc2, hc3, hc4, hc5⟩ := col_ok hfm d fuel S2 c.2.2 (by omega) hlay (fun _ => hcne)
      refine ⟨S', d', L', ?_, hc2, ?_, ?_, ?_⟩
      · unfold colM
        rw [hlo]
        simp only [Option.bind_some]
        rw [if_neg (by rw [hlen]; simp [kd])]
        show (if (bdE (d + 1) c).2.size < 2 then none else (loadM S (pgN (bdE (d + 1) c).2)).bind fun c => (storeM f m S root c.1 c.2).bind fun S1 => (relM f m S1 (pgN (bdE (d + 1) _).2)).bind fun S2 => colM f m root fuel S2) = _
        rw [if_neg hsz, hpg, loadM_lay hl fun _ => hcne]
        simp only [Option.bind_some]
        rw [hst]
        simp only [Option.bind_some]
        rw [hrel]
        simp only [Option.bind_some]
        exact hc1
      · rw [hpL]; exact F2.trans hc3
      · rw [hc4]
        show flL d c.2.2 = flL d c.2.2 ++ []
        rw [List.append_nil]
      · refine Nat.le_trans hc5 ?_
        rw [stL_cons, stL_nil, stB_succ]
        have := Nat.le_max_right (78 * 4 ^ d) (stL d c.2.2)
        omega
    · refine ⟨S, d + 1, L, ?_, ⟨h, fun _ => ?_⟩, Ext.refl h.taken, rfl, Nat.le_refl _⟩
      · unfold colM
        rw [hlo]
        simp only [Option.bind_some]
        rw [if_pos (.inr (by rw [hlen]; exact h1))]
      · have := List.length_pos_iff.2 hne
        omega
/-- Delete -/
theorem del_tree {L : List (Bd d)} (h : Tree f m S root d L) (hfm : f + m < 65536) (hd : d < 66) :
    (hasL (flL d L) key = false ∧ delM f m root key S = some (S, false)) ∨
    (hasL (flL d L) key = true ∧ ∃ S' d' L', delM f m root key S = some (S', true) ∧ Tree f m S' root d' L' ∧ Ext f m S S' (root :: pgL d L) (root :: pgL d' L') ∧ flL d' L' = takeL (flL d L) key ∧ stL d' L' ≤ stL d L) := by
  rcases take_ok (key := key) hfm d 66 S root L hd h.lay (fun h0 => h.ne h0) with ⟨h1, h2⟩ | ⟨h1, S1, L1, h2, hr⟩
  · refine .inl ⟨h1, ?_⟩
    unfold delM
    rw [h2]
    rfl
  · refine .inr ⟨h1, ?_⟩
    have key2 : ∃ S' d' L', colM f m root 66 S1 = some S' ∧ Tree f m S' root d' L' ∧ Ext f m S1 S' (root :: pgL d L1) (root :: pgL d' L') ∧ flL d' L' = flL d L1 ∧ stL d' L' ≤ stL d L1 := by
      cases d with
      | zero =>
        have hlay : Lay f m S1 0 root L1 := by
          refine ⟨?_, hr.ok, hr.lies, hr.good, hr.nd, hr.ext.taken⟩
          rw [hr.pg]
          show some (if L1.isEmpty then 1 else 1, _) = some (1, _)
          rw [ite_self]
        exact col_ok hfm 0 66 S1 L1 (by omega) hlay (fun h0 => absurd rfl h0)
      | succ d =>
        by_cases hL1 : L1 = []
        · subst hL1
          have hlay : Lay f m S1 0 root [] := by
            have := hr.ext.taken
            exact ⟨hr.pg, (by decide), (fun b hb => by cases hb), ⟨.nil, (fun b hb => by cases hb)⟩, (by rw [pgL_zero]; simp), this⟩
          exact col_ok hfm 0 66 S1 [] (by omega) hlay (fun h0 => absurd rfl h0)
        · have hlay : Lay f m S1 (d + 1) root L1 := by
            refine ⟨?_, hr.ok, hr.lies, hr.good, hr.nd, hr.ext.taken⟩
            rw [hr.pg, if_neg (by cases L1 with | nil => exact absurd rfl hL1 | cons _ _ => simp)]
          exact col_ok hfm (d + 1) 66 S1 L1 hd hlay (fun _ => hL1)
    obtain ⟨S', d', L', c1, c2, c3, c4, c5⟩ := key2
    refine ⟨S', d', L', ?_, c2, hr.ext.trans c3, c4.trans hr.fl, Nat.le_trans c5 hr.st⟩
    unfold delM
    rw [h2]
    simp only [Option.bind_some]
    rw [if_pos trivial, c1]
    rfl
end
end
/-! TLook -/
section
set_option linter.unusedSimpArgs false
set_option linter.unusedVariables false
open Go.RowKit Go.Maps Go.Shelf

def valL (l : List Ent) (k : ByteArray) : Option ByteArray := if hasL l k then ((fromL l k).head?).map (·.2) else none
section
variable {f m root d at_ : Nat} {S S0 S1 S2 : TS} {key from_ : ByteArray}
theorem fromL_append (l r : List Ent) (k : ByteArray) : fromL (l ++ r) k = fromL l k ++ fromL r k := List.filter_append ..
theorem fromL_all (l : List Ent) : fromL l ⟨#[]⟩ = l := List.filter_eq_self.2 fun q _ => by rw [ltB_empty]; rfl
theorem cIx_empty (l : List Ent) : cIx l ⟨#[]⟩ = 0 := by
  have : lIx l ⟨#[]⟩ = 0 := List.countP_eq_zero.2 fun q _ => by rw [ltB_empty]; simp
  unfold cIx
  rw [this]
  split <;> rfl
theorem valL_mid {x y z : List Ent} (hy : ascP y) (hx : ∀ q ∈ x, ltB q.1 key = true) (hz : ∀ q ∈ z, ltB key q.1 = true) : valL (x ++ y ++ z) key = valL y key := by
  unfold valL
  rw [hasL_mid hx hz, fromL_mid hx hz]
  split
  · rename_i hh
    rcases fromL_split hy key with ⟨-, v, e⟩ | ⟨e, -⟩
    · rw [e]; rfl
    · rw [hh] at e; cases e
  · rfl
/-- the pages and entries behind a list's elements -/
theorem walks_ok (hfm : f + m < 65536) {fuel : Nat} (IH : ∀ (at_ : Nat) (L : List (Bd d)), Lay f m S d at_ L → L ≠ [] → ∃ pgs, walkM from_ fuel S at_ = some (fromL (flL d L) from_, at_ :: pgs) ∧ (from_ = ⟨#[]⟩ → pgs = pgL d L) ∧ pgs.length ≤ (pgL d L).length) {L : List (Bd (d + 1))} (h : Lay f m S (d + 1) at_ L) :
    ∀ M A : List (Bd (d + 1)), A ++ M = L → ∃ pgs, walkM.walksM from_ S (walkM from_ fuel S) (enL (d + 1) M) = some (fromL (flL (d + 1) M) from_, pgs) ∧ (from_ = ⟨#[]⟩ → pgs = pgL (d + 1) M) ∧ pgs.length ≤ (pgL (d + 1) M).length
  | [], A, _ => ⟨[], rfl, fun _ => rfl, Nat.le_refl _⟩
  | c :: M, A, e => by
    subst e
    obtain ⟨hl, hcne⟩ := h.child
    obtain ⟨p1, h1, h2, h3⟩ := IH c.2.1 c.2.2 hl hcne
    obtain ⟨p2, h4, h5, h6⟩ := walks_ok hfm IH h M (A ++ [c]) (by rw [List.append_assoc]; rfl)
    have hsz : ¬ (bdE (d + 1) c).2.size < 2 := by
      have : (bdE (d + 1) c).2.size = 2 := nmB_size _
      omega
    have hpg : pgN (bdE (d + 1) c).2 = c.2.1 := pgN_at hfm (hl.taken c.2.1 List.mem_cons_self)
    refine ⟨c.2.1 :: p1 ++ p2, ?_, fun e0 => ?_, ?_⟩
    · rw [enL_cons]
      unfold walkM.walksM
      rw [if_neg hsz, hpg, h1, h4]
      simp only [Option.bind_some, Option.map_some]
      rw [flL_cons, flB_succ, fromL_append]
    · rw [h2 e0, h5 e0, pgL_cons, pgB_succ]
    · rw [pgL_cons, pgB_succ]
      simp only [List.length_append, List.length_cons]
      omega
theorem walk_ok (hfm : f + m < 65536) : ∀ (d fuel : Nat) (at_ : Nat) (L : List (Bd d)), d < fuel → Lay f m S d at_ L → (d ≠ 0 → L ≠ []) →
    ∃ pgs, walkM from_ fuel S at_ = some (fromL (flL d L) from_, at_ :: pgs) ∧ (from_ = ⟨#[]⟩ → pgs = pgL d L) ∧ pgs.length ≤ (pgL d L).length
  | 0, fuel, at_, L, hf, h, _ => by
    obtain ⟨fuel, rfl⟩ : ∃ k, fuel = k + 1 := ⟨fuel - 1, by omega⟩
    obtain ⟨-, hs, ha, hl⟩ := okB_iff.1 h.ok
    rw [enL_zero] at ha
    refine ⟨[], ?_, fun _ => (pgL_zero L).symm, Nat.zero_le _⟩
    unfold walkM
    rw [loadM_lay h fun h0 => absurd rfl h0]
    simp only [Option.bind_some]
    rw [if_pos (show kd 0 = 1 from rfl), enL_zero, flL_zero, (lIx_take ha from_).2]
  | d + 1, fuel, at_, L, hf, h, hne => by
    obtain ⟨fuel, rfl⟩ : ∃ k, fuel = k + 1 := ⟨fuel - 1, by omega⟩
    have hne := hne (by omega)
    obtain ⟨A, c, B, hL, hix, hB, hA⟩ := child_split (enL_asc h.good) hne from_
    have hAl : (enL (d + 1) A).length = A.length := by unfold enL; simp
    have IH := fun (at_ : Nat) (L : List (Bd d)) (hl : Lay f m S d at_ L) (hn : L ≠ []) => walk_ok hfm d fuel at_ L (by omega) hl (fun _ => hn)
    obtain ⟨pgs, h1, h2, h3⟩ := walks_ok hfm IH h (c :: B) A hL.symm
    have hdrop : (enL (d + 1) L).drop (cIx (enL (d + 1) L) from_) = enL (d + 1) (c :: B) := by
      rw [hix, hL, enL_append, List.drop_left' hAl]
    have hg := h.good
    rw [hL] at hg
    have hfA : fromL (flL (d + 1) A) from_ = [] := List.filter_eq_nil_iff.2 fun q hq => by
      rcases hA with h1 | h1
      · rw [h1] at hq; cases hq
      · obtain ⟨a, ha, hq⟩ := List.mem_flatMap.1 hq
        have := ltB_lt_le ((List.pairwise_append.1 hg.lt).2.2 a ha c (by simp) _ (fl_ks hq)) h1
        simp [this]
    refine ⟨pgs, ?_, fun e0 => ?_, ?_⟩
    · unfold walkM
      rw [loadM_lay h fun _ => hne]
      simp only [Option.bind_some]
      rw [if_neg (by show ¬ kd (d + 1) = 1; simp [kd]), hdrop, h1]
      simp only [Option.map_some]
      have : fromL (flL (d + 1) L) from_ = fromL (flL (d + 1) (c :: B)) from_ := by rw [hL, flL_append, fromL_append, hfA]; rfl
      rw [this]
    · have hA0 : A = [] := by
        rw [e0, cIx_empty] at hix
        exact List.length_eq_zero_iff.1 hix.symm
      rw [h2 e0, hL, hA0]
      rfl
    · refine Nat.le_trans h3 ?_
      rw [hL, pgL_append]
      simp
theorem get_ok (hfm : f + m < 65536) : ∀ (d fuel : Nat) (at_ : Nat) (L : List (Bd d)), d < fuel → Lay f m S d at_ L → (d ≠ 0 → L ≠ []) →
    getM key fuel S at_ = some (valL (flL d L) key)
  | 0, fuel, at_, L, hf, h, _ => by
    obtain ⟨fuel, rfl⟩ : ∃ k, fuel = k + 1 := ⟨fuel - 1, by omega⟩
    obtain ⟨-, hs, ha, hl⟩ := okB_iff.1 h.ok
    rw [enL_zero] at ha
    unfold getM
    rw [loadM_lay h fun h0 => absurd rfl h0]
    simp only [Option.bind_some]
    rw [if_pos (show kd 0 = 1 from rfl), enL_zero, flL_zero]
    unfold valL
    rw [lHas_eq ha, ← (lIx_take ha key).2, List.head?_drop]
  | d + 1, fuel, at_, L, hf, h, hne => by
    obtain ⟨fuel, rfl⟩ : ∃ k, fuel = k + 1 := ⟨fuel - 1, by omega⟩
    have hne := hne (by omega)
    obtain ⟨A, c, B, rfl, hix, hB, hA⟩ := child_split (enL_asc h.good) hne key
    obtain ⟨hl, hcne⟩ := h.child
    have hget : (enL (d + 1) (A ++ c :: B))[cIx (enL (d + 1) (A ++ c :: B)) key]? = some (bdE (d + 1) c) := by rw [hix]; exact half_get
    have hsz : ¬ (bdE (d + 1) c).2.size < 2 := by
      have : (bdE (d + 1) c).2.size = 2 := nmB_size _
      omega
    have hpg : pgN (bdE (d + 1) c).2 = c.2.1 := pgN_at hfm (hl.taken c.2.1 List.mem_cons_self)
    obtain ⟨gA, gcB⟩ := h.good.sub_append
    have gc := h.good.all c (by simp)
    have gB : GoodL (d + 1) B := (show GoodL (d + 1) ([c] ++ B) from gcB).sub_append.2
    have pAc : ∀ a ∈ A, ltK (d + 1) a c := fun a ha => (List.pairwise_append.1 h.good.lt).2.2 a ha c (by simp)
    have hAk : ∀ q ∈ flL (d + 1) A, ltB q.1 key = true := fun q hq => by
      rcases hA with h1 | h1
      · rw [h1] at hq; cases hq
      · obtain ⟨a, ha, hq⟩ := List.mem_flatMap.1 hq
        exact ltB_lt_le (pAc a ha _ (fl_ks hq)) h1
    have hBk : ∀ q ∈ flL (d + 1) B, ltB key q.1 = true := fun q hq => by
      obtain ⟨b, hb, hq⟩ := List.mem_flatMap.1 hq
      exact ltB_lt_le (hB b hb) (ks_ge (gB.all b hb) _ (fl_ks hq))
    have hfl : flL (d + 1) (A ++ c :: B) = flL (d + 1) A ++ flL d c.2.2 ++ flL (d + 1) B := by rw [flL_append, flL_cons, flB_succ, List.append_assoc]
    have ih := get_ok hfm d fuel c.2.1 c.2.2 (by omega) hl (fun _ => hcne)
    unfold getM
    rw [loadM_lay h fun _ => hne]
    simp only [Option.bind_some]
    rw [if_neg (by show ¬ kd (d + 1) = 1; simp [kd]), hget]
    simp only
    rw [if_neg hsz, hpg, ih, hfl, valL_mid (flL_asc (GoodB_succ.1 gc).2.2.2) hAk hBk]
end
end
end Go.Proofs.YtmgcaohpbaiiaaaGreatDoor
