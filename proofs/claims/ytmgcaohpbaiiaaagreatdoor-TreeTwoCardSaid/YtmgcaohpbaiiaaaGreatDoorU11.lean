/- The document's answer for entries: At, Has, Put, Take, Same, From · The document's answer for entries: Take, Put, From, Same · The document's answer for entries: From, Same. -/
import Derived.Test.YtmgcaohpbaiiaaaGreatDoorU6
import Derived.Deep.RegionHeld3
import Derived.BigQuiet
namespace Go.Proofs.YtmgcaohpbaiiaaaGreatDoor
/-! TRef -/
section
set_option linter.unusedSimpArgs false
set_option linter.unusedVariables false
open Go.RowKit Go.Maps Go.Shelf

theorem app_one {wr : World} {B : Nat} {ao : Option Addr} {m co : Nat} {T : List Ent} {x : Ent} (hO : EOwn wr B (.slice ao m co) T) (hT : T.length = m) (hB : B ≤ wr.heap.size) (hm : m ≤ 1000000) :
    ∃ a2 c2 w3, (Builtin.append_ #[31, 31] 31 #[.slice ao m co, .slice (some ⟨wr.heap.size, 0, none⟩) 1 1]).run Tryz.prog (wr.alloc (boxE x.1 x.2)) = .ok (.slice a2 (m + 1) c2) w3 ∧ EOwn w3 B (.slice a2 (m + 1) c2) (T ++ [x]) ∧ Below B wr w3 := by
  subst hT
  have hB1 : Below wr.heap.size wr (wr.alloc (boxE x.1 x.2)) := (Below.refl _ wr).alloc (Nat.le_refl _) _
  have hbox : EBox (wr.alloc (boxE x.1 x.2)) wr.heap.size (x.1, x.2) := heap_alloc_new' wr _
  obtain ⟨a2, c2, w3, hr, ho, hg, -⟩ := ent_append (wr.alloc (boxE x.1 x.2)) B (.slice ao T.length co) T [x] 1 (some ⟨wr.heap.size, 0, none⟩) (by have := hO.made hB1; exact this) hbox.row (.inr ⟨_, _, rfl⟩) (by simp; omega) (by simp; omega)
  exact ⟨a2, c2, w3, hr, ho, (hB1.mono hB).trans (grown_below hg (fun b hb => (hO.lt b hb).1) (by simp; omega))⟩
theorem ba_ne {a b : ByteArray} (h : ¬ a = b) : (a.toList == b.toList) = false := by
  rw [beq_eq_false_iff_ne]
  intro e
  rw [ByteArray.toList_eq, ByteArray.toList_eq] at e
  exact h (ByteArray.ext (Array.ext' e))
theorem ba_eq {a b : ByteArray} (h : (a.toList == b.toList) = true) : a = b := by
  have e := beq_iff_eq.1 h
  rw [ByteArray.toList_eq, ByteArray.toList_eq] at e
  exact ByteArray.ext (Array.ext' e)
theorem gt_eq (x k : ByteArray) : (!Op.bytesLess x.toList k.toList && !(x.toList == k.toList)) = ltB k x := by
  cases h1 : ltB x k with
  | true =>
    rw [ltB_asymm h1, show Op.bytesLess x.toList k.toList = true from h1]
    rfl
  | false =>
    rw [show Op.bytesLess x.toList k.toList = false from h1]
    by_cases h2 : x = k
    · subst h2
      rw [ltB_irrefl]
      simp
    · rw [ba_ne h2]
      cases h3 : ltB k x with
      | true => rfl
      | false => exact absurd (ltB_tri h1 h3) h2
theorem filter_take (l : List Ent) (p : Ent → Bool) {k : Nat} (hk : k < l.length) : (l.take (k + 1)).filter p = (l.take k).filter p ++ (if p l[k] then [l[k]] else []) := by
  rw [List.take_succ_eq_append_getElem hk, List.filter_append]
  congr 1
  rw [List.filter_cons]
  split <;> rfl
theorem count_upto (l : List Ent) (h : ascP l) (key : ByteArray) {k : Nat} (hk : k < l.length) : (ltB l[k].1 key = true → (l.take (k + 1)).countP (fun q => ltB q.1 key) = k + 1) ∧ (ltB l[k].1 key = false → (l.take (k + 1)).countP (fun q => ltB q.1 key) = (l.take k).countP (fun q => ltB q.1 key)) := by
  rw [List.take_succ_eq_append_getElem hk, List.countP_append]
  refine ⟨fun hl => ?_, fun hl => by simp [hl]⟩
  have h1 : (l.take k).countP (fun q => ltB q.1 key) = (l.take k).length := List.countP_eq_length.2 fun q hq => by
    have h2 : l = l.take k ++ l[k] :: l.drop (k + 1) := by rw [← List.drop_eq_getElem_cons hk, List.take_append_drop]
    have h3 : ascP (l.take k ++ l[k] :: l.drop (k + 1)) := by rw [← h2]; exact h
    exact ltB_trans ((List.pairwise_append.1 h3).2.2 q hq l[k] List.mem_cons_self) hl
  rw [h1, List.length_take]
  simp [hl]; omega
set_option maxHeartbeats 1000000 in
set_option maxRecDepth 100000 in
theorem rat_any (w : World) (ao : Option Addr) (c : Nat) (l : List Ent) (key : ByteArray) (hl : ERow w ao l) (ha : ascP l) (hn : l.length ≤ 1000000) :
    Calls Tryz.prog 34 #[.slice ao l.length c, .string key] w fun e w' => e = .returned (.int .i64 (lIx l key : Nat)) ∧ w = w' := by
  have HC : Hid (∀ k (hk : k < l.length), ∃ g off, ao = some ⟨g, off, none⟩ ∧ w.cell? ⟨g, off + k * 2, none⟩ = some (.string (l[k]'hk).1)) := fun k hk => by
    obtain ⟨g, off, e, c0, -⟩ := hl.at hk
    exact ⟨g, off, e, c0⟩
  have HS : Hid (∀ k (hk : k < l.length), (Op.bytesLess (l[k]'hk).1.toList key.toList = true → (l.take (k + 1)).countP (fun q => ltB q.1 key) = k + 1) ∧ (Op.bytesLess (l[k]'hk).1.toList key.toList = false → (l.take (k + 1)).countP (fun q => ltB q.1 key) = (l.take k).countP (fun q => ltB q.1 key))) := fun k hk => count_upto l ha key hk
  have HE : Hid ((l.take l.length).countP (fun q => ltB q.1 key) = lIx l key) := by show _ = _; rw [List.take_length]; rfl
  obtain ⟨f, hf⟩ : ∃ f : Nat → Nat, ∀ k, (l.take k).countP (fun q => ltB q.1 key) = f k := ⟨_, fun _ => rfl⟩
  have HF0 : Hid (f 0 = 0) := by show _ = _; rw [← hf]; rfl
  simp only [hf] at HS HE
  have HFL : Hid (∀ k, f k ≤ k) := fun k => by rw [← hf]; exact Nat.le_trans List.countP_le_length (by rw [List.length_take]; omega)
  clear hf hl ha
  obtain ⟨m, HM⟩ : ∃ m, Hid (l.length = m) := ⟨_, Lib.hid rfl⟩
  rw [HM.out] at hn HE ⊢
  generalize lIx l key = r at *
  go_enter Tryz.func34, Tryz.ntmps34
  go_wp2
  go_loopw [5, 9] (fun u v wr => ∃ (k : Nat), u = .int .i64 (f k) ∧ v = .int .i64 k ∧ k ≤ m ∧ wr = w) (fun _ v _ => m - (intOf v).toNat)
  case atStart => exact ⟨0, by rw [HF0.out]; rfl, rfl, Nat.zero_le _, rfl⟩
  case round =>
    obtain ⟨k, rfl, rfl, hk, rfl⟩ := hrel
    by_cases hlt : k < m
    · have hlt' : k < l.length := by rw [HM.out]; exact hlt
      obtain ⟨g, off, rfl, c0⟩ := HC.out k hlt'
      obtain ⟨s1, s2⟩ := HS.out k hlt'
      have hfl := HFL.out k
      clear HC HS
      generalize l[k].1 = x at *
      cases hb : Op.bytesLess x.toList key.toList with
      | true =>
        have s3 := s1 hb
        clear s1 s2 HE HF0 HFL
        go_wp2
        go_roundw
        case rel => exact ⟨k + 1, by rw [s3]; go_num, by go_num, by omega, trivial⟩
        case measure => simp [intOf]; omega
      | false =>
        have s3 := s2 hb
        have S3 := Lib.hid s3
        clear s1 s2 s3 HE HF0 HFL
        go_wp2
        go_roundw
        case rel => exact ⟨k + 1, by rw [S3.out], by go_num, by omega, trivial⟩
        case measure => simp [intOf]; omega
    · obtain rfl : k = m := by omega
      rw [HE.out]
      go_wp2
      go_ret
      exact ⟨rfl, rfl⟩
set_option maxHeartbeats 2000000 in
set_option maxRecDepth 100000 in
theorem rhas_any (w : World) (ao : Option Addr) (c : Nat) (l : List Ent) (key : ByteArray) (hl : ERow w ao l) (hn : l.length ≤ 1000000) :
    Calls Tryz.prog 33 #[.slice ao l.length c, .string key] w fun e w' => e = .returned (.bool (hasL l key)) ∧ w = w' := by
  have HC : Hid (∀ k (hk : k < l.length), ∃ g off, ao = some ⟨g, off, none⟩ ∧ w.cell? ⟨g, off + k * 2, none⟩ = some (.string (l[k]'hk).1)) := fun k hk => by
    obtain ⟨g, off, e, c0, -⟩ := hl.at hk
    exact ⟨g, off, e, c0⟩
  have HS : Hid (∀ k (hk : k < l.length), ((l[k]'hk).1 = key → hasL l key = true) ∧ (¬ (l[k]'hk).1 = key → hasL (l.take k) key = false → hasL (l.take (k + 1)) key = false)) := fun k hk => by
    refine ⟨fun h => List.any_eq_true.2 ⟨_, List.getElem_mem hk, by simp [h]⟩, fun h h2 => ?_⟩
    unfold hasL at h2 ⊢
    rw [List.take_succ_eq_append_getElem hk, List.any_append, h2]
    simp [h]
  have HE : Hid (hasL (l.take l.length) key = hasL l key) := by show _ = _; rw [List.take_length]
  have HF0 : Hid (hasL (l.take 0) key = false) := rfl
  clear hl
  obtain ⟨m, HM⟩ : ∃ m, Hid (l.length = m) := ⟨_, Lib.hid rfl⟩
  rw [HM.out] at hn HE ⊢
  generalize hasL l key = r at *
  go_enter Tryz.func33, Tryz.ntmps33
  go_wp2
  go_loopw [8] (fun v wr => ∃ (k : Nat), v = .int .i64 k ∧ k ≤ m ∧ Hid (hasL (l.take k) key = false) ∧ wr = w) (fun v _ => m - (intOf v).toNat)
  case atStart => exact ⟨0, rfl, Nat.zero_le _, HF0, rfl⟩
  case round =>
    obtain ⟨k, rfl, hk, hh, rfl⟩ := hrel
    by_cases hlt : k < m
    · have hlt' : k < l.length := by rw [HM.out]; exact hlt
      obtain ⟨g, off, rfl, c0⟩ := HC.out k hlt'
      obtain ⟨s1, s2⟩ := HS.out k hlt'
      clear HC HS
      by_cases hb : l[k].1 = key
      · have s3 := s1 hb
        subst s3
        clear s1 s2 HE HF0 hh
        rw [hb] at c0
        go_wp2
        go_ret
        exact ⟨rfl, rfl⟩
      · have S3 := Lib.hid (s2 hb hh.out)
        have hb2 := ba_ne hb
        clear s1 s2 HE HF0 hh hb
        generalize l[k].1 = x at *
        go_wp2
        go_roundw
        case rel => exact ⟨k + 1, by go_num, by omega, S3, trivial⟩
        case measure => simp [intOf]; omega
    · obtain rfl : k = m := by omega
      have h1 := HE.out
      rw [hh.out] at h1
      subst h1
      go_wp2
      go_ret
      exact ⟨rfl, rfl⟩
end
/-! TRef2 -/
section
set_option linter.unusedSimpArgs false
set_option linter.unusedVariables false
open Go.RowKit Go.Maps Go.Shelf

set_option maxHeartbeats 2000000 in
set_option maxRecDepth 100000 in
theorem rtake_any (w : World) (ao : Option Addr) (c : Nat) (l : List Ent) (key : ByteArray) (hl : ERow w ao l) (hn : l.length ≤ 100000) :
    Calls Tryz.prog 32 #[.slice ao l.length c, .string key] w fun e w' => ∃ a2 c2, e = .returned (.slice a2 (takeL l key).length c2) ∧ EOwn w' w.heap.size (.slice a2 (takeL l key).length c2) (takeL l key) ∧ Below w.heap.size w w' := by
  have HC : Hid (∀ k (hk : k < l.length) (W : World), Below w.heap.size w W → ∃ g off, ao = some ⟨g, off, none⟩ ∧ W.cell? ⟨g, off + k * 2, none⟩ = some (.string (l[k]'hk).1) ∧ W.cell? ⟨g, off + k * 2 + 1, none⟩ = some (.string (l[k]'hk).2)) := fun k hk W hB => (hl.made hB).at hk
  obtain ⟨f, hf⟩ : ∃ f : Nat → Nat, ∀ k, ((l.take k).filter (fun q => !decide (q.1 = key))).length = f k := ⟨_, fun _ => rfl⟩
  have HS : Hid (∀ k (hk : k < l.length), (((l[k]'hk).1.toList == key.toList) = false → f (k + 1) = f k + 1 ∧ (l.take k).filter (fun q => !decide (q.1 = key)) ++ [l[k]'hk] = (l.take (k + 1)).filter (fun q => !decide (q.1 = key))) ∧ (((l[k]'hk).1.toList == key.toList) = true → f (k + 1) = f k ∧ (l.take (k + 1)).filter (fun q => !decide (q.1 = key)) = (l.take k).filter (fun q => !decide (q.1 = key)))) := fun k hk => by
    have h1 := filter_take l (fun q => !decide (q.1 = key)) hk
    refine ⟨fun hb => ?_, fun hb => ?_⟩
    · have hne : ¬ (l[k]'hk).1 = key := fun e => by rw [e] at hb; simp at hb
      rw [if_pos (by simp [hne])] at h1
      exact ⟨by rw [← hf, ← hf, h1]; simp, h1.symm⟩
    · have he : (l[k]'hk).1 = key := ba_eq hb
      rw [if_neg (by simp [he]), List.append_nil] at h1
      exact ⟨by rw [← hf, ← hf, h1], h1⟩
  have HLE : Hid (∀ k, ((l.take k).filter (fun q => !decide (q.1 = key))).length = f k) := hf
  have HFL : Hid (∀ k, f k ≤ k) := fun k => by rw [← hf]; exact Nat.le_trans (List.length_filter_le _ _) (by rw [List.length_take]; omega)
  have HE : Hid (l.take l.length = l) := List.take_length
  clear hf hl
  obtain ⟨m, HM⟩ : ∃ m, Hid (l.length = m) := ⟨_, Lib.hid rfl⟩
  rw [HM.out] at hn HE ⊢
  have HGO : Hid (takeL l key = l.filter (fun q => !decide (q.1 = key))) := rfl
  obtain ⟨R, HR⟩ : ∃ R, Hid (takeL l key = R) := ⟨_, Lib.hid rfl⟩
  rw [HR.out]
  go_enter Tryz.func32, Tryz.ntmps32
  go_wp2
  go_loopw [5, 9] (fun u v wr => ∃ (k : Nat) (a1 : Option Addr) (c1 : Nat), u = .slice a1 (f k) c1 ∧ v = .int .i64 k ∧ k ≤ m ∧ Hid (EOwn wr w.heap.size (.slice a1 (f k) c1) ((l.take k).filter (fun q => !decide (q.1 = key)))) ∧ Hid (Below w.heap.size w wr)) (fun _ v _ => m - (intOf v).toNat)
  case atStart => exact ⟨0, none, 0, by rw [show f 0 = 0 from Nat.le_zero.1 (HFL.out 0)], rfl, Nat.zero_le _, Lib.hid (by rw [show f 0 = 0 from Nat.le_zero.1 (HFL.out 0)]; exact EOwn.nil _ _), Lib.hid (Below.refl _ _)⟩
  case round =>
    obtain ⟨k, a1, c1, rfl, rfl, hk, HO, HB⟩ := hrel
    by_cases hlt : k < m
    · have hlt' : k < l.length := by rw [HM.out]; exact hlt
      obtain ⟨g, off, rfl, x0, x1⟩ := HC.out k hlt' wr HB.out
      obtain ⟨s1, s2⟩ := HS.out k hlt'
      have hfl := HFL.out k
      have happ := app_one (x := l[k]) HO.out (by exact HLE.out k) HB.out.size (by omega)
      clear HC HS HE HGO HR HLE
      cases hb : (l[k].1.toList == key.toList)
      case false =>
        obtain ⟨e1, e2⟩ := s1 hb
        obtain ⟨a2, c2, w3, hr, ho, hBo⟩ := happ
        rw [e2] at ho
        have HO3 := Lib.hid ho
        have HB3 := Lib.hid (HB.out.trans hBo)
        have E1 := Lib.hid e1
        clear s1 s2 ho hBo HO HB e1 e2
        generalize l[k].1 = x at *
        generalize l[k].2 = y at *
        go_wp2_with (at_builtin; refine wpList_append_run hr rfl rfl rfl rfl rfl ?_)
        go_roundw
        case rel => exact ⟨k + 1, a2, c2, by rw [E1.out], by go_num, by omega, by rw [E1.out]; exact HO3, HB3⟩
        case measure => simp [intOf]; omega
      case true =>
        obtain ⟨e1, e2⟩ := s2 hb
        have ho := HO.out
        rw [← e2] at ho
        have HO3 := Lib.hid ho
        have E1 := Lib.hid e1
        clear s1 s2 ho happ HO e1 e2
        generalize l[k].1 = x at *
        generalize l[k].2 = y at *
        go_wp2
        go_roundw
        case rel => exact ⟨k + 1, a1, c1, by rw [E1.out], by go_num, by omega, by rw [E1.out]; exact HO3, HB⟩
        case measure => simp [intOf]; omega
    · obtain rfl : m = k := by omega
      have hO := HO.out
      rw [HE.out, ← HGO.out, HR.out] at hO
      have HL := HLE.out m
      rw [HE.out, ← HGO.out, HR.out] at HL
      have HO2 := Lib.hid hO
      have HL2 := Lib.hid HL
      clear hO HL HC HS HO
      go_wp2
      go_ret
      rw [HL2.out]
      exact ⟨a1, c1, rfl, HO2.out, HB.out⟩

set_option maxHeartbeats 2000000 in
set_option maxRecDepth 100000 in
theorem rput_ref (w : World) (ao : Option Addr) (c : Nat) (l : List Ent) (key value : ByteArray) (hl : ERow w ao l) (hn : l.length ≤ 100000) :
    Calls Tryz.prog 31 #[.slice ao l.length c, .string key, .string value] w fun e w' => ∃ a2 c2, e = .returned (.slice a2 (putL l key value).length c2) ∧ EOwn w' w.heap.size (.slice a2 (putL l key value).length c2) (putL l key value) ∧ Below w.heap.size w w' := by
  have HC : Hid (∀ k (hk : k < l.length) (W : World), Below w.heap.size w W → ∃ g off, ao = some ⟨g, off, none⟩ ∧ W.cell? ⟨g, off + k * 2, none⟩ = some (.string (l[k]'hk).1) ∧ W.cell? ⟨g, off + k * 2 + 1, none⟩ = some (.string (l[k]'hk).2)) := fun k hk W hB => (hl.made hB).at hk
  obtain ⟨PRE, hPRE⟩ : ∃ PRE, l.filter (fun q => ltB q.1 key) ++ [(key, value)] = PRE := ⟨_, rfl⟩
  obtain ⟨f1, hf1⟩ : ∃ f1 : Nat → Nat, ∀ k, ((l.take k).filter (fun q => ltB q.1 key)).length = f1 k := ⟨_, fun _ => rfl⟩
  obtain ⟨f2, hf2⟩ : ∃ f2 : Nat → Nat, ∀ k, (PRE ++ (l.take k).filter (fun q => ltB key q.1)).length = f2 k := ⟨_, fun _ => rfl⟩
  have HS1 : Hid (∀ k (hk : k < l.length), (Op.bytesLess (l[k]'hk).1.toList key.toList = true → f1 (k + 1) = f1 k + 1 ∧ (l.take k).filter (fun q => ltB q.1 key) ++ [l[k]'hk] = (l.take (k + 1)).filter (fun q => ltB q.1 key)) ∧ (Op.bytesLess (l[k]'hk).1.toList key.toList = false → f1 (k + 1) = f1 k ∧ (l.take (k + 1)).filter (fun q => ltB q.1 key) = (l.take k).filter (fun q => ltB q.1 key))) := fun k hk => by
    have h1 := filter_take l (fun q => ltB q.1 key) hk
    refine ⟨fun hb => ?_, fun hb => ?_⟩
    · simp only [show ltB (l[k]'hk).1 key = true from hb, if_true] at h1
      exact ⟨by rw [← hf1, ← hf1, h1]; simp; try omega, h1.symm⟩
    · simp only [show ltB (l[k]'hk).1 key = false from hb, Bool.false_eq_true, if_false, List.append_nil] at h1
      exact ⟨by rw [← hf1, ← hf1, h1], h1⟩
  have HS2 : Hid (∀ k (hk : k < l.length), ((!Op.bytesLess (l[k]'hk).1.toList key.toList && !((l[k]'hk).1.toList == key.toList)) = true → f2 (k + 1) = f2 k + 1 ∧ (l.take k).filter (fun q => ltB key q.1) ++ [l[k]'hk] = (l.take (k + 1)).filter (fun q => ltB key q.1)) ∧ ((!Op.bytesLess (l[k]'hk).1.toList key.toList && !((l[k]'hk).1.toList == key.toList)) = false → f2 (k + 1) = f2 k ∧ (l.take (k + 1)).filter (fun q => ltB key q.1) = (l.take k).filter (fun q => ltB key q.1))) := fun k hk => by
    have h1 := filter_take l (fun q => ltB key q.1) hk
    refine ⟨fun hb => ?_, fun hb => ?_⟩
    · simp only [show ltB key (l[k]'hk).1 = true from (gt_eq _ _).symm.trans hb, if_true] at h1
      exact ⟨by rw [← hf2, ← hf2, h1]; simp; try omega, h1.symm⟩
    · simp only [show ltB key (l[k]'hk).1 = false from (gt_eq _ _).symm.trans hb, Bool.false_eq_true, if_false, List.append_nil] at h1
      exact ⟨by rw [← hf2, ← hf2, h1], h1⟩
  have HLE1 : Hid (∀ k, ((l.take k).filter (fun q => ltB q.1 key)).length = f1 k) := hf1
  have HLE2 : Hid (∀ k, (PRE ++ (l.take k).filter (fun q => ltB key q.1)).length = f2 k) := hf2
  have HFL1 : Hid (∀ k, f1 k ≤ k) := fun k => by rw [← hf1]; exact Nat.le_trans (List.length_filter_le _ _) (by rw [List.length_take]; omega)
  have HFL2 : Hid (∀ k, f2 k ≤ l.length + 1 + k) := fun k => by
    have h1 := List.length_filter_le (fun q : Ent => ltB key q.1) (l.take k)
    have h2 := List.length_filter_le (fun q : Ent => ltB q.1 key) l
    rw [← hf2, ← hPRE]
    simp only [List.length_append, List.length_cons, List.length_nil, List.length_take] at h1 ⊢
    omega
  have HE : Hid (l.take l.length = l) := List.take_length
  have HPR : Hid (l.filter (fun q => ltB q.1 key) ++ [(key, value)] = PRE) := hPRE
  have HF0 : Hid (f1 l.length + 1 = f2 0) := by
    show _ = _
    rw [← hf2, ← hPRE, ← hf1, List.take_length]
    simp
  have HP0 : Hid (PRE ++ (l.take 0).filter (fun q => ltB key q.1) = PRE) := List.append_nil _
  have HGO : Hid (PRE ++ l.filter (fun q => ltB key q.1) = putL l key value) := by
    show _ = _
    rw [← hPRE, List.append_assoc]
    rfl
  clear hf1 hf2 hPRE hl
  obtain ⟨m, HM⟩ : ∃ m, Hid (l.length = m) := ⟨_, Lib.hid rfl⟩
  rw [HM.out] at hn HE HFL2 HF0 ⊢
  obtain ⟨R, HR⟩ : ∃ R, Hid (putL l key value = R) := ⟨_, Lib.hid rfl⟩
  rw [HR.out]
  go_enter Tryz.func31, Tryz.ntmps31
  go_wp2
  go_loopw [7, 12] (fun u v wr => ∃ (k : Nat) (a1 : Option Addr) (c1 : Nat), u = .slice a1 (f1 k) c1 ∧ v = .int .i64 k ∧ k ≤ m ∧ Hid (EOwn wr w.heap.size (.slice a1 (f1 k) c1) ((l.take k).filter (fun q => ltB q.1 key))) ∧ Hid (Below w.heap.size w wr)) (fun _ v _ => m - (intOf v).toNat)
  case atStart => exact ⟨0, none, 0, by rw [show f1 0 = 0 from Nat.le_zero.1 (HFL1.out 0)], rfl, Nat.zero_le _, Lib.hid (by rw [show f1 0 = 0 from Nat.le_zero.1 (HFL1.out 0)]; exact EOwn.nil _ _), Lib.hid (Below.refl _ _)⟩
  case round =>
    obtain ⟨k, a1, c1, rfl, rfl, hk, HO, HB⟩ := hrel
    by_cases hlt : k < m
    · have hlt' : k < l.length := by rw [HM.out]; exact hlt
      obtain ⟨g, off, rfl, x0, x1⟩ := HC.out k hlt' wr HB.out
      obtain ⟨s1, s2⟩ := HS1.out k hlt'
      have hfl := HFL1.out k
      have happ := app_one (x := l[k]) HO.out (by exact HLE1.out k) HB.out.size (by omega)
      clear HC HS1 HS2 HE HGO HR HLE1 HLE2 HFL2 HF0 HP0 HPR HFL1
      cases hb : Op.bytesLess l[k].1.toList key.toList
      case true =>
        obtain ⟨e1, e2⟩ := s1 hb
        obtain ⟨a2, c2, w3, hr, ho, hBo⟩ := happ
        rw [e2] at ho
        have HO3 := Lib.hid ho
        have HB3 := Lib.hid (HB.out.trans hBo)
        have E1 := Lib.hid e1
        clear s1 s2 ho hBo HO HB e1 e2
        generalize l[k].1 = x at *
        generalize l[k].2 = y at *
        go_wp2_with (at_builtin; refine wpList_append_run hr rfl rfl rfl rfl rfl ?_)
        go_roundw
        case rel => exact ⟨k + 1, a2, c2, by rw [E1.out], by go_num, by omega, by rw [E1.out]; exact HO3, HB3⟩
        case measure => simp [intOf]; omega
      case false =>
        obtain ⟨e1, e2⟩ := s2 hb
        have ho := HO.out
        rw [← e2] at ho
        have HO3 := Lib.hid ho
        have E1 := Lib.hid e1
        clear s1 s2 ho happ HO e1 e2
        generalize l[k].1 = x at *
        generalize l[k].2 = y at *
        go_wp2
        go_roundw
        case rel => exact ⟨k + 1, a1, c1, by rw [E1.out], by go_num, by omega, by rw [E1.out]; exact HO3, HB⟩
        case measure => simp [intOf]; omega
    · obtain rfl : m = k := by omega
      have happ := app_one (x := (key, value)) HO.out (HLE1.out m) HB.out.size (by have := HFL1.out m; omega)
      obtain ⟨a2, c2, w3, hr, ho, hBo⟩ := happ
      rw [HE.out, HPR.out] at ho
      rw [HF0.out] at hr ho
      have HO0 := Lib.hid ho
      have HB0 := Lib.hid (HB.out.trans hBo)
      clear ho hBo HO HB HS1 HLE1 HFL1 HF0
      go_wp2_with (at_builtin; refine wpList_append_run hr rfl rfl rfl rfl rfl ?_)
      clear hr
      go_loopw [7, 38] (fun u v wr => ∃ (k : Nat) (a1 : Option Addr) (c1 : Nat), u = .slice a1 (f2 k) c1 ∧ v = .int .i64 k ∧ k ≤ m ∧ Hid (EOwn wr w.heap.size (.slice a1 (f2 k) c1) (PRE ++ (l.take k).filter (fun q => ltB key q.1))) ∧ Hid (Below w.heap.size w wr)) (fun _ v _ => m - (intOf v).toNat)
      case atStart => exact ⟨0, a2, c2, rfl, rfl, Nat.zero_le _, Lib.hid (by rw [HP0.out]; exact HO0.out), HB0⟩
      case round =>
        obtain ⟨k, a1, c1, rfl, rfl, hk, HO, HB⟩ := hrel
        by_cases hlt : k < m
        · have hlt' : k < l.length := by rw [HM.out]; exact hlt
          obtain ⟨g, off, rfl, x0, x1⟩ := HC.out k hlt' wr HB.out
          obtain ⟨s1, s2⟩ := HS2.out k hlt'
          have hfl := HFL2.out k
          have happ := app_one (x := l[k]) HO.out (by exact HLE2.out k) HB.out.size (by omega)
          clear HC HS2 HE HGO HR HLE2 HP0 HPR HO0 HB0 HFL2
          cases hb : (!Op.bytesLess l[k].1.toList key.toList && !(l[k].1.toList == key.toList))
          case true =>
            obtain ⟨e1, e2⟩ := s1 hb
            obtain ⟨a2, c2, w3, hr, ho, hBo⟩ := happ
            rw [List.append_assoc, e2] at ho
            have HO3 := Lib.hid ho
            have HB3 := Lib.hid (HB.out.trans hBo)
            have E1 := Lib.hid e1
            clear s1 s2 ho hBo HO HB e1 e2
            generalize l[k].1 = x at *
            generalize l[k].2 = y at *
            go_wp2_with (at_builtin; refine wpList_append_run hr rfl rfl rfl rfl rfl ?_)
            go_roundw
            case rel => exact ⟨k + 1, a2, c2, by rw [E1.out], by go_num, by omega, by rw [E1.out]; exact HO3, HB3⟩
            case measure => simp [intOf]; omega
          case false =>
            obtain ⟨e1, e2⟩ := s2 hb
            have ho := HO.out
            rw [← e2] at ho
            have HO3 := Lib.hid ho
            have E1 := Lib.hid e1
            clear s1 s2 ho happ HO e1 e2
            generalize l[k].1 = x at *
            generalize l[k].2 = y at *
            go_wp2
            go_roundw
            case rel => exact ⟨k + 1, a1, c1, by rw [E1.out], by go_num, by omega, by rw [E1.out]; exact HO3, HB⟩
            case measure => simp [intOf]; omega
        · obtain rfl : m = k := by omega
          have hO := HO.out
          rw [HE.out, HGO.out, HR.out] at hO
          have HL := HLE2.out m
          rw [HE.out, HGO.out, HR.out] at HL
          have HO2 := Lib.hid hO
          have HL2 := Lib.hid HL
          clear hO HL HC HS2 HO
          go_wp2
          go_ret
          rw [HL2.out]
          exact ⟨a1, c1, rfl, HO2.out, HB.out⟩

end
/-! TRef3 -/
section
set_option linter.unusedSimpArgs false
set_option linter.unusedVariables false
open Go.RowKit Go.Maps Go.Shelf

set_option maxHeartbeats 2000000 in
set_option maxRecDepth 100000 in
theorem rfrom_any (w : World) (ao : Option Addr) (c : Nat) (l : List Ent) (key : ByteArray) (n : Int) (hl : ERow w ao l) (hn : l.length ≤ 100000) :
    Calls Tryz.prog 35 #[.slice ao l.length c, .string key, .int .i64 n] w fun e w' => ∃ a2 c2, e = .returned (.slice a2 ((fromL l key).take n.toNat).length c2) ∧ EOwn w' w.heap.size (.slice a2 ((fromL l key).take n.toNat).length c2) ((fromL l key).take n.toNat) ∧ Below w.heap.size w w' := by
  have HC : Hid (∀ k (hk : k < l.length) (W : World), Below w.heap.size w W → ∃ g off, ao = some ⟨g, off, none⟩ ∧ W.cell? ⟨g, off + k * 2, none⟩ = some (.string (l[k]'hk).1) ∧ W.cell? ⟨g, off + k * 2 + 1, none⟩ = some (.string (l[k]'hk).2)) := fun k hk W hB => (hl.made hB).at hk
  obtain ⟨T, hT⟩ : ∃ T : Nat → List Ent, ∀ k, ((l.take k).filter (fun q => !ltB q.1 key)).take n.toNat = T k := ⟨_, fun _ => rfl⟩
  obtain ⟨f, hf⟩ : ∃ f : Nat → Nat, ∀ k, (T k).length = f k := ⟨_, fun _ => rfl⟩
  have HS : Hid (∀ k (hk : k < l.length), (Op.bytesLess (l[k]'hk).1.toList key.toList = true → f (k + 1) = f k ∧ T (k + 1) = T k) ∧ (Op.bytesLess (l[k]'hk).1.toList key.toList = false → ((f k : Int) < n → f (k + 1) = f k + 1 ∧ T k ++ [l[k]'hk] = T (k + 1)) ∧ (¬ (f k : Int) < n → f (k + 1) = f k ∧ T (k + 1) = T k))) := fun k hk => by
    have h1 := filter_take l (fun q => !ltB q.1 key) hk
    have h2 := hT k
    have h3 := hT (k + 1)
    rw [← hf, ← hf]
    refine ⟨fun hb => ?_, fun hb => ⟨fun hc => ?_, fun hc => ?_⟩⟩
    · simp only [show ltB (l[k]'hk).1 key = true from hb, Bool.not_true, Bool.false_eq_true, if_false, List.append_nil] at h1
      rw [h1] at h3
      rw [← h2, ← h3]
      exact ⟨rfl, rfl⟩
    · simp only [show ltB (l[k]'hk).1 key = false from hb, Bool.not_false, if_true] at h1
      rw [h1] at h3
      rw [← h2] at hc ⊢
      rw [← h3]
      generalize (l.take k).filter (fun q => !ltB q.1 key) = A at *
      rw [List.length_take] at hc
      have hA : A.length < n.toNat := by omega
      have hA2 : (A ++ [l[k]'hk]).length ≤ n.toNat := by simp only [List.length_append, List.length_singleton]; omega
      have hA3 : A.length ≤ n.toNat := by omega
      rw [List.take_of_length_le hA2, List.take_of_length_le hA3]
      exact ⟨by simp, rfl⟩
    · simp only [show ltB (l[k]'hk).1 key = false from hb, Bool.not_false, if_true] at h1
      rw [h1] at h3
      rw [← h2] at hc ⊢
      rw [← h3]
      generalize (l.take k).filter (fun q => !ltB q.1 key) = A at *
      rw [List.length_take] at hc
      have hA : n.toNat ≤ A.length := by omega
      rw [List.take_append, show n.toNat - A.length = 0 by omega]
      simp
  have HLE : Hid (∀ k, (T k).length = f k) := hf
  have HFL : Hid (∀ k, f k ≤ k) := fun k => by
    rw [← hf, ← hT]
    have := List.length_filter_le (fun q : Ent => !ltB q.1 key) (l.take k)
    simp only [List.length_take] at this ⊢
    omega
  have HE : Hid (T l.length = (fromL l key).take n.toNat) := by
    show _ = _
    rw [← hT, List.take_length]
    rfl
  have HT0 : Hid (T 0 = []) := by
    show _ = _
    rw [← hT]
    simp
  clear hf hT hl
  obtain ⟨m, HM⟩ : ∃ m, Hid (l.length = m) := ⟨_, Lib.hid rfl⟩
  rw [HM.out] at hn HE ⊢
  obtain ⟨R, HR⟩ : ∃ R, Hid ((fromL l key).take n.toNat = R) := ⟨_, Lib.hid rfl⟩
  rw [HR.out] at HE ⊢
  go_enter Tryz.func35, Tryz.ntmps35
  go_wp2
  go_loopw [7, 11] (fun u v wr => ∃ (k : Nat) (a1 : Option Addr) (c1 : Nat), u = .slice a1 (f k) c1 ∧ v = .int .i64 k ∧ k ≤ m ∧ Hid (EOwn wr w.heap.size (.slice a1 (f k) c1) (T k)) ∧ Hid (Below w.heap.size w wr)) (fun _ v _ => m - (intOf v).toNat)
  case atStart => exact ⟨0, none, 0, by rw [show f 0 = 0 from Nat.le_zero.1 (HFL.out 0)], rfl, Nat.zero_le _, Lib.hid (by rw [show f 0 = 0 from Nat.le_zero.1 (HFL.out 0), HT0.out]; exact EOwn.nil _ _), Lib.hid (Below.refl _ _)⟩
  case round =>
    obtain ⟨k, a1, c1, rfl, rfl, hk, HO, HB⟩ := hrel
    by_cases hlt : k < m
    · have hlt' : k < l.length := by rw [HM.out]; exact hlt
      obtain ⟨g, off, rfl, x0, x1⟩ := HC.out k hlt' wr HB.out
      obtain ⟨s1, s2⟩ := HS.out k hlt'
      have hfl := HFL.out k
      have happ := app_one (x := l[k]) HO.out (HLE.out k) HB.out.size (by omega)
      clear HC HS HE HR HLE HT0
      cases hb : Op.bytesLess l[k].1.toList key.toList with
      | true =>
        obtain ⟨e1, e2⟩ := s1 hb
        have ho := HO.out
        rw [← e2] at ho
        have HO3 := Lib.hid ho
        have E1 := Lib.hid e1
        clear s1 s2 ho happ HO e1 e2
        generalize l[k].1 = x at *
        generalize l[k].2 = y at *
        go_wp2
        go_roundw
        case rel => exact ⟨k + 1, a1, c1, by rw [E1.out], by go_num, by omega, by rw [E1.out]; exact HO3, HB⟩
        case measure => simp [intOf]; omega
      | false =>
        obtain ⟨s3, s4⟩ := s2 hb
        clear s1 s2
        by_cases hc : (f k : Int) < n
        · obtain ⟨e1, e2⟩ := s3 hc
          obtain ⟨a2, c2, w3, hr, ho, hBo⟩ := happ
          rw [e2] at ho
          have HO3 := Lib.hid ho
          have HB3 := Lib.hid (HB.out.trans hBo)
          have E1 := Lib.hid e1
          clear s3 s4 ho hBo HO HB e1 e2
          generalize l[k].1 = x at *
          generalize l[k].2 = y at *
          go_wp2_with (at_builtin; refine wpList_append_run hr rfl rfl rfl rfl rfl ?_)
          go_roundw
          case rel => exact ⟨k + 1, a2, c2, by rw [E1.out], by go_num, by omega, by rw [E1.out]; exact HO3, HB3⟩
          case measure => simp [intOf]; omega
        · obtain ⟨e1, e2⟩ := s4 (by omega)
          have ho := HO.out
          rw [← e2] at ho
          have HO3 := Lib.hid ho
          have E1 := Lib.hid e1
          clear s3 s4 ho happ HO e1 e2
          generalize l[k].1 = x at *
          generalize l[k].2 = y at *
          go_wp2
          go_roundw
          case rel => exact ⟨k + 1, a1, c1, by rw [E1.out], by go_num, by omega, by rw [E1.out]; exact HO3, HB⟩
          case measure => simp [intOf]; omega
    · obtain rfl : m = k := by omega
      have hO := HO.out
      rw [HE.out] at hO
      have HL := HLE.out m
      rw [HE.out] at HL
      have HO2 := Lib.hid hO
      have HL2 := Lib.hid HL
      clear hO HL HC HS HO
      go_wp2
      go_ret
      rw [HL2.out]
      exact ⟨a1, c1, rfl, HO2.out, HB.out⟩
set_option maxHeartbeats 2000000 in
set_option maxRecDepth 100000 in
theorem rsame_any (w : World) (a1 a2 : Option Addr) (c1 c2 : Nat) (l1 l2 : List Ent) (h1 : ERow w a1 l1) (h2 : ERow w a2 l2) (hn1 : l1.length ≤ 100000) (hn2 : l2.length ≤ 100000) :
    Calls Tryz.prog 14 #[.slice a1 l1.length c1, .slice a2 l2.length c2] w fun e w' => e = .returned (.bool (decide (l1 = l2))) ∧ Below w.heap.size w w' := by
  by_cases hlen : l1.length = l2.length
  case neg =>
    have hd : decide (l1 = l2) = false := by simp; exact fun e => hlen (by rw [e])
    rw [hd]
    have z1 : ¬ ((l1.length : Int) = (l2.length : Int)) := by omega
    clear hd h1 h2 hlen
    generalize l1.length = m1 at *
    generalize l2.length = m2 at *
    go_enter Tryz.func14, Tryz.ntmps14
    go_wp2
    go_ret
    exact ⟨rfl, Below.refl _ _⟩
  have HC : Hid (∀ k (hk : k < l1.length) (hk2 : k < l2.length) (W : World), Below w.heap.size w W → ∃ g off g2 off2, a1 = some ⟨g, off, none⟩ ∧ a2 = some ⟨g2, off2, none⟩ ∧ W.cell? ⟨g, off + k * 2, none⟩ = some (.string (l1[k]'hk).1) ∧ W.cell? ⟨g, off + k * 2 + 1, none⟩ = some (.string (l1[k]'hk).2) ∧ W.cell? ⟨g2, off2 + k * 2, none⟩ = some (.string (l2[k]'hk2).1) ∧ W.cell? ⟨g2, off2 + k * 2 + 1, none⟩ = some (.string (l2[k]'hk2).2)) := fun k hk hk2 W hB => by
    obtain ⟨g, off, e, c0, c1⟩ := (h1.made hB).at hk
    obtain ⟨g2, off2, e2, c2, c3⟩ := (h2.made hB).at hk2
    exact ⟨g, off, g2, off2, e, e2, c0, c1, c2, c3⟩
  have HS : Hid (∀ k (hk : k < l1.length) (hk2 : k < l2.length), ((l1[k]'hk) = (l2[k]'hk2) → l1.take k = l2.take k → l1.take (k + 1) = l2.take (k + 1)) ∧ (¬ (l1[k]'hk) = (l2[k]'hk2) → decide (l1 = l2) = false)) := fun k hk hk2 => by
    refine ⟨fun e e2 => ?_, fun h => ?_⟩
    · rw [List.take_succ_eq_append_getElem hk, List.take_succ_eq_append_getElem hk2, e, e2]
    · simp only [decide_eq_false_iff_not]
      intro e
      subst e
      exact h rfl
  have HE : Hid (l1.take l1.length = l2.take l1.length → decide (l1 = l2) = true) := fun e => by
    rw [List.take_length, hlen, List.take_length] at e
    simp [e]
  have HT0 : Hid (l1.take 0 = l2.take 0) := rfl
  clear h1 h2
  obtain ⟨m, HM⟩ : ∃ m, Hid (l1.length = m) := ⟨_, Lib.hid rfl⟩
  obtain ⟨m2, HM2⟩ : ∃ m, Hid (l2.length = m) := ⟨_, Lib.hid rfl⟩
  rw [HM.out, HM2.out] at hlen
  subst hlen
  rw [HM2.out]
  rw [HM.out] at hn1 HE ⊢
  generalize decide (l1 = l2) = r at *
  go_enter Tryz.func14, Tryz.ntmps14
  go_wp2
  go_loopw [13] (fun v wr => ∃ (k : Nat), v = .int .i64 k ∧ k ≤ m ∧ Hid (l1.take k = l2.take k) ∧ Hid (Below w.heap.size w wr)) (fun v _ => m - (intOf v).toNat)
  case atStart => exact ⟨0, rfl, Nat.zero_le _, HT0, Lib.hid (Below.refl _ _)⟩
  case round =>
    obtain ⟨k, rfl, hk, hh, HB⟩ := hrel
    by_cases hlt : k < m
    · have hlt1 : k < l1.length := by rw [HM.out]; exact hlt
      have hlt2 : k < l2.length := by rw [HM2.out]; exact hlt
      obtain ⟨g, off, g2, off2, rfl, rfl, x0, x1, x2, x3⟩ := HC.out k hlt1 hlt2 wr HB.out
      obtain ⟨s1, s2⟩ := HS.out k hlt1 hlt2
      clear HC HS HE HT0
      have k0 : ∀ j, (wr.drewN j).cell? ⟨g, off + k * 2, none⟩ = some (.string (l1[k]'hlt1).1) := fun _ => x0
      have k1 : ∀ j, (wr.drewN j).cell? ⟨g, off + k * 2 + 1, none⟩ = some (.string (l1[k]'hlt1).2) := fun _ => x1
      have k2 : ∀ j, (wr.drewN j).cell? ⟨g2, off2 + k * 2, none⟩ = some (.string (l2[k]'hlt2).1) := fun _ => x2
      have k3 : ∀ j, (wr.drewN j).cell? ⟨g2, off2 + k * 2 + 1, none⟩ = some (.string (l2[k]'hlt2).2) := fun _ => x3
      by_cases hb : l1[k] = l2[k]
      · have S3 := Lib.hid (s1 hb hh.out)
        clear s1 s2 hh x0 x1 x2 x3
        rw [hb] at k0 k1
        generalize l2[k].1 = x at *
        generalize l2[k].2 = y at *
        have HBN : Hid (∀ j, Below w.heap.size w (wr.drewN j)) := fun j => HB.out.trans ((drewN_below wr j).mono HB.out.size)
        go_wp2
        go_quiet (fail)
        go_wp2
        go_roundw
        case rel => exact ⟨k + 1, by go_num, by omega, S3, HBN.out _⟩
        case measure => simp [intOf]; omega
      · have S3 := s2 hb
        subst S3
        have HBN : Hid (∀ j, Below w.heap.size w (wr.drewN j)) := fun j => HB.out.trans ((drewN_below wr j).mono HB.out.size)
        by_cases e1 : l1[k].1 = l2[k].1
        · by_cases e2 : l1[k].2 = l2[k].2
          · exact absurd (Prod.ext e1 e2) hb
          · have hq := ba_ne e2
            rw [e1] at k0
            clear s1 s2 hh x0 x1 x2 x3 hb e1 e2
            generalize l2[k].1 = x2 at *
            generalize l1[k].2 = y1 at *
            generalize l2[k].2 = y2 at *
            go_wp2
            go_quiet (fail)
            go_wp2
            go_ret
            exact ⟨rfl, HBN.out _⟩
        · have hq := ba_ne e1
          clear s1 s2 hh x0 x1 x2 x3 hb e1
          generalize l1[k].1 = x1 at *
          generalize l1[k].2 = y1 at *
          generalize l2[k].1 = x2 at *
          generalize l2[k].2 = y2 at *
          go_wp2
          go_quiet (fail)
          go_wp2
          go_ret
          exact ⟨rfl, HBN.out _⟩
    · obtain rfl : m = k := by omega
      have h1 := HE.out hh.out
      subst h1
      go_wp2
      go_ret
      exact ⟨rfl, HB.out⟩
end
end Go.Proofs.YtmgcaohpbaiiaaaGreatDoor
