/- leaf.piece, Unpack. -/
import Derived.Test.YtmgcaohpbaiiaaaGreatDoorTPack
import Derived.Test.YtmgcaohpbaiiaaaGreatDoorTIns
set_option linter.unusedSimpArgs false
set_option linter.unusedVariables false
namespace Go.Proofs.YtmgcaohpbaiiaaaGreatDoor
open Go.RowKit Go.Maps Go.Shelf Go.Lib

theorem ba_mid (A R : ByteArray) (c : UInt8) : ∀ h : A.size < (A ++ (⟨#[c]⟩ ++ R)).size, (A ++ (⟨#[c]⟩ ++ R))[A.size]'h = c := by
  intro h
  rw [ByteArray.getElem_append_right (Nat.le_refl _)]
  simp only [Nat.sub_self]
  rfl
theorem ba_ext (A t R : ByteArray) (c : UInt8) : (A ++ (⟨#[c]⟩ ++ (t ++ R))).extract (A.size + 1) (A.size + 1 + t.size) = t := by
  have h : ((A ++ (⟨#[c]⟩ ++ (t ++ R))).extract (A.size + 1) (A.size + 1 + t.size)).data.toList = t.data.toList := by
    rw [Lib.extract_data]
    have e : (A ++ (⟨#[c]⟩ ++ (t ++ R))).data.toList = (A.data.toList ++ [c]) ++ (t.data.toList ++ R.data.toList) := by
      simp [ByteArray.toList_data_append]
    have hl : (A.data.toList ++ [c]).length = A.size + 1 := by rw [List.length_append, Array.length_toList]; rfl
    rw [e, List.drop_left' hl, show A.size + 1 + t.size - (A.size + 1) = t.data.toList.length by rw [Array.length_toList]; show _ = t.size; omega]
    exact List.take_left
  have h2 := Array.toList_inj.1 h
  cases t
  cases hx : (A ++ ((⟨#[c]⟩ : ByteArray) ++ (_ ++ R))).extract (A.size + 1) (A.size + 1 + _)
  rw [hx] at h2
  exact congrArg ByteArray.mk h2
set_option maxHeartbeats 1000000 in
theorem piece_any (s : ByteArray) (at_ : Nat) (t : ByteArray) (w : World) (hat : at_ < s.size) (hb : s[at_].toNat = t.size) (he : at_ + 1 + t.size ≤ s.size) (hx : s.extract (at_ + 1) (at_ + 1 + t.size) = t) (hs : s.size ≤ 1000) :
    Calls Tryz.prog 117 #[.string s, .int .i64 at_] w fun e w' => e = .returned (.tuple #[.string t, .int .i64 ((at_ + 1 + t.size : Nat) : Int), .bool true]) ∧ w = w' := by
  have ht : t.size < 256 := by rw [← hb]; exact UInt8.toNat_lt _
  have e1 : ¬ ((s.size : Int) ≤ (at_ : Int)) := by omega
  have e2 : ¬ ((s.size : Int) < (at_ : Int) + 1 + (t.size : Int)) := by omega
  go_enter Tryz.func117, Tryz.ntmps117
  go_wp2
  go_ret3
  exact ⟨rfl, rfl⟩
/-- what stands about the k-th entry of a page -/
theorem packB_at {kind : Nat} {l : List Ent} (hf : Fine kind l) {k : Nat} (h : k < l.length) :
    (∃ h1 : 2 + lSum (l.take k) < (packB kind l).size, (packB kind l)[2 + lSum (l.take k)].toNat = l[k].1.size) ∧
    (packB kind l).extract (2 + lSum (l.take k) + 1) (2 + lSum (l.take k) + 1 + l[k].1.size) = l[k].1 ∧
    (∃ h1 : 2 + lSum (l.take k) + 1 + l[k].1.size < (packB kind l).size, (packB kind l)[2 + lSum (l.take k) + 1 + l[k].1.size].toNat = l[k].2.size) ∧
    (packB kind l).extract (2 + lSum (l.take k) + 1 + l[k].1.size + 1) (2 + lSum (l.take k) + 1 + l[k].1.size + 1 + l[k].2.size) = l[k].2 ∧
    2 + lSum (l.take k) + 1 + l[k].1.size + 1 + l[k].2.size = 2 + lSum (l.take (k + 1)) ∧ 2 + lSum (l.take (k + 1)) ≤ 256 := by
  obtain ⟨post, hp⟩ := packB_split kind l h
  obtain ⟨i1, i2⟩ := hf.all _ (List.getElem_mem h)
  have hA : ((⟨#[UInt8.ofNat kind, UInt8.ofNat l.length]⟩ : ByteArray) ++ recsB (l.take k)).size = 2 + lSum (l.take k) := by rw [ByteArray.size_append, recsB_size]; rfl
  have hsz := packB_size (kind := kind) hf.size
  have hsum := lSum_succ l h
  have hle := lSum_take_le l (k + 1)
  have h256 := hf.size
  unfold lSize at h256
  unfold recB at hp
  generalize hAA : (⟨#[UInt8.ofNat kind, UInt8.ofNat l.length]⟩ : ByteArray) ++ recsB (l.take k) = A at *
  have e1 : packB kind l = A ++ (⟨#[UInt8.ofNat l[k].1.size]⟩ ++ (l[k].1 ++ (⟨#[UInt8.ofNat l[k].2.size]⟩ ++ (l[k].2 ++ post)))) := by rw [hp]; simp only [ByteArray.append_assoc]
  have e2 : packB kind l = (A ++ ⟨#[UInt8.ofNat l[k].1.size]⟩ ++ l[k].1) ++ (⟨#[UInt8.ofNat l[k].2.size]⟩ ++ (l[k].2 ++ post)) := by rw [hp]; simp only [ByteArray.append_assoc]
  have hB : (A ++ (⟨#[UInt8.ofNat l[k].1.size]⟩ : ByteArray) ++ l[k].1).size = A.size + 1 + l[k].1.size := by rw [ByteArray.size_append, ByteArray.size_append]; rfl
  rw [← hA]
  refine ⟨⟨by omega, ?_⟩, ?_, ⟨by omega, ?_⟩, ?_, by omega, by omega⟩
  · have := ba_mid A (l[k].1 ++ (⟨#[UInt8.ofNat l[k].2.size]⟩ ++ (l[k].2 ++ post))) (UInt8.ofNat l[k].1.size) (by rw [← e1]; omega)
    simp only [e1, this]
    simp
    omega
  · rw [e1]; exact ba_ext _ _ _ _
  · have := ba_mid (A ++ ⟨#[UInt8.ofNat l[k].1.size]⟩ ++ l[k].1) (l[k].2 ++ post) (UInt8.ofNat l[k].2.size) (by rw [← e2]; omega)
    simp only [hB] at this
    simp only [e2, this]
    simp
    omega
  · rw [e2, ← hB]; exact ba_ext _ _ _ _
theorem packB_01 {kind : Nat} {l : List Ent} (hf : Fine kind l) : (∃ h : 0 < (packB kind l).size, (packB kind l)[0].toNat = kind) ∧ (∃ h : 1 < (packB kind l).size, (packB kind l)[1].toNat = l.length) := by
  have hsz := packB_size (kind := kind) hf.size
  have hlen := hf.len
  have hk := hf.kind
  have e1 : packB kind l = (⟨#[]⟩ : ByteArray) ++ (⟨#[UInt8.ofNat kind]⟩ ++ (⟨#[UInt8.ofNat l.length]⟩ ++ (recsB l ++ zerosB (256 - (rawB kind l).size)))) := by
    unfold packB padB
    generalize 256 - (rawB kind l).size = z
    unfold rawB
    rw [show (⟨#[UInt8.ofNat kind, UInt8.ofNat l.length]⟩ : ByteArray) = (⟨#[]⟩ : ByteArray) ++ (⟨#[UInt8.ofNat kind]⟩ ++ ⟨#[UInt8.ofNat l.length]⟩) by rfl]
    simp only [ByteArray.append_assoc]
  have e2 : packB kind l = (⟨#[UInt8.ofNat kind]⟩ : ByteArray) ++ (⟨#[UInt8.ofNat l.length]⟩ ++ (recsB l ++ zerosB (256 - (rawB kind l).size))) := by
    rw [e1]; exact ByteArray.empty_append
  refine ⟨⟨by omega, ?_⟩, ⟨by omega, ?_⟩⟩
  · have := ba_mid (⟨#[]⟩ : ByteArray) (⟨#[UInt8.ofNat l.length]⟩ ++ (recsB l ++ zerosB (256 - (rawB kind l).size))) (UInt8.ofNat kind) (by rw [← e1]; show 0 < _; omega)
    change (_ : ByteArray)[0]'_ = _ at this
    simp only [e1, this]
    simp
    omega
  · have := ba_mid (⟨#[UInt8.ofNat kind]⟩ : ByteArray) (recsB l ++ zerosB (256 - (rawB kind l).size)) (UInt8.ofNat l.length) (by rw [← e2]; show 1 < _; omega)
    change (_ : ByteArray)[1]'_ = _ at this
    simp only [e2, this]
    simp
    omega
set_option maxHeartbeats 4000000 in
set_option maxRecDepth 100000 in
theorem unpack_any (w : World) (kind : Nat) (l : List Ent) (hf : Fine kind l) :
    Calls Tryz.prog 74 #[.string (packB kind l)] w fun e w' => ∃ v, e = .returned (.tuple #[.int .i64 kind, v, .int .i64 0]) ∧ EOwn w' w.heap.size v l ∧ Below w.heap.size w w' := by
  have hlen := hf.len
  have hw64 : wrap64 (kind : Int) = kind := IntWalk.wrap64_in _ (by rcases hf.kind with h | h <;> omega)
  have hw65 : IntKind.i64.wrap (kind : Int) = kind := IntWalk.i64_in _ (by rcases hf.kind with h | h <;> omega)
  have hsz := packB_size (kind := kind) hf.size
  obtain ⟨⟨z0, hz0⟩, ⟨z1, hz1⟩⟩ := packB_01 hf
  have HPC : Hid (∀ k (hk : k < l.length) (W : World), Calls Tryz.prog 117 #[.string (packB kind l), .int .i64 ((2 + lSum (l.take k) : Nat) : Int)] W (fun e w' => e = .returned (.tuple #[.string (l[k]'hk).1, .int .i64 ((2 + lSum (l.take k) + 1 + (l[k]'hk).1.size : Nat) : Int), .bool true]) ∧ W = w') ∧
      Calls Tryz.prog 117 #[.string (packB kind l), .int .i64 ((2 + lSum (l.take k) + 1 + (l[k]'hk).1.size : Nat) : Int)] W (fun e w' => e = .returned (.tuple #[.string (l[k]'hk).2, .int .i64 ((2 + lSum (l.take (k + 1)) : Nat) : Int), .bool true]) ∧ W = w')) := fun k hk W => by
    obtain ⟨⟨a1, a2⟩, b, ⟨c1, c2⟩, d, e1, e2⟩ := packB_at hf hk
    have r := piece_any (packB kind l) _ _ W c1 c2 (by rw [e1, hsz]; exact e2) d (by omega)
    rw [e1] at r
    exact ⟨piece_any (packB kind l) _ _ W a1 a2 (by omega) b (by omega), r⟩
  have HPK : Hid (∀ W ao c, Below w.heap.size w W → ERow W ao l → Calls Tryz.prog 70 #[.int .i64 kind, .slice ao l.length c] W fun e w' => e = .returned (.tuple #[.string (packB kind l), .int .i64 0]) ∧ Below W.heap.size W w') := fun W ao c hB hr => pack_any W ao c kind l hr hf
  have HTK : Hid (∀ k (hk : k < l.length), l.take (k + 1) = l.take k ++ [(l[k]'hk)]) := fun k hk => List.take_succ_eq_append_getElem hk
  have HP0 : Hid (2 + lSum (l.take 0) = 2) := by show _ = _; rfl
  have HTA : Hid (l.take l.length = l) := by show _ = _; rw [List.take_length]
  clear hf
  generalize packB kind l = s at *
  obtain ⟨pos, hpos⟩ : ∃ pos : Nat → Nat, ∀ k, 2 + lSum (l.take k) = pos k := ⟨_, fun _ => rfl⟩
  simp only [hpos] at HPC HP0
  clear hpos
  obtain ⟨m, HM⟩ : ∃ m, Hid (l.length = m) := ⟨_, Lib.hid rfl⟩
  rw [HM.out] at hz1 HPK hlen HTA
  have hnz : ¬ ((s.size : Int) ≠ 256) := by omega
  go_enter Tryz.func74, Tryz.ntmps74
  go_wp2
  go_loopw [5, 6, 19] (fun vo va vc wr => ∃ (k p : Nat) (ao : Option Addr) (co : Nat), vo = .slice ao k co ∧ va = .int .i64 p ∧ vc = .int .u8 k ∧ k ≤ m ∧ Hid (pos k = p) ∧ Hid (EOwn wr w.heap.size (.slice ao k co) (l.take k)) ∧ Hid (Below w.heap.size w wr)) (fun _ _ vc _ => m - (intOf vc).toNat)
  case atStart => exact ⟨0, 2, none, 0, rfl, rfl, rfl, by omega, HP0, EOwn.nil _ _, Below.refl _ _⟩
  case round =>
    obtain ⟨k, p, ao, co, rfl, rfl, rfl, hk, HPS, HO, HB⟩ := hrel
    by_cases hlt : k < m
    · have hlt' : k < l.length := by rw [HM.out]; exact hlt
      obtain ⟨q1, q2⟩ := HPC.out k hlt' wr
      have htk := HTK.out k hlt'
      rw [HPS.out] at q1 q2
      push_cast at q1 q2
      have hB1 : Below wr.heap.size wr (wr.alloc (boxE l[k].1 l[k].2)) := (Below.refl _ wr).alloc (Nat.le_refl _) _
      have hbox : EBox (wr.alloc (boxE l[k].1 l[k].2)) wr.heap.size (l[k].1, l[k].2) := heap_alloc_new' wr _
      have hlk : (l.take k).length = k := by rw [List.length_take]; omega
      obtain ⟨a2, c2, w3, hr, ho, hg, -⟩ := ent_append (wr.alloc (boxE l[k].1 l[k].2)) w.heap.size (.slice ao k co) (l.take k) [l[k]] 1 (some ⟨wr.heap.size, 0, none⟩) (by have := HO.out.made hB1; exact this) hbox.row (.inr ⟨_, _, rfl⟩) (by rw [hlk]; simp; omega) (by have := HB.out.size; simp; omega)
      rw [hlk, ← htk] at ho
      rw [hlk] at hr
      have HO3 : Hid (EOwn w3 w.heap.size (.slice a2 (k + 1) c2) (l.take (k + 1))) := ho
      have HB3 : Hid (Below w.heap.size w w3) := (HB.out.trans (hB1.mono HB.out.size)).trans (grown_below hg (fun b hb => by
        have := HO.out.lt b (by simpa [Value.ownBlock] using hb); exact this.1) (by have := HB.out.size; simp; omega))
      have hu : IntKind.u8.wrap ((k : Int) + 1) = (k : Int) + 1 := wraps_u8 _ (by omega) (by omega)
      simp only [List.length_cons, List.length_nil, Nat.zero_add] at hr
      clear ho hg hB1 hbox HPC HPK HTK htk HO hlk
      generalize l[k].1 = x at *
      generalize l[k].2 = y at *
      go_wp2_with fail
      refine q1.mono ?_
      rintro e w' ⟨rfl, rfl⟩
      go_wp2_with fail
      refine q2.mono ?_
      rintro e w' ⟨rfl, rfl⟩
      clear q1 q2
      go_wp2_with (at_builtin; refine wpList_append_run hr rfl rfl rfl rfl rfl ?_)
      go_roundw
      case rel => exact ⟨k + 1, pos (k + 1), a2, c2, rfl, rfl, by go_num, by omega, Lib.hid rfl, HO3, HB3⟩
      case measure => simp [intOf]; omega
    · obtain rfl : k = m := by omega
      rw [HTA.out] at HO
      have hO := HO.out
      obtain ⟨ao', c', e, hr, -⟩ := HO.out.parts
      simp at e
      obtain ⟨rfl, -, rfl⟩ := e
      have hpk := HPK.out wr ao co HB.out hr
      have HFIN : Hid (∀ W, Below wr.heap.size wr W → EOwn W w.heap.size (.slice ao k co) l ∧ Below w.heap.size w W) := fun W hB => ⟨HO.out.made hB, HB.out.trans (hB.mono HB.out.size)⟩
      clear hr HO hO HPC HPK HTK
      go_wp2_with (go_at_call 70; refine hpk.mono ?_; rintro e w2 ⟨rfl, hB2⟩)
      go_ret3
      exact ⟨_, rfl, (HFIN.out _ hB2).1, (HFIN.out _ hB2).2⟩
end Go.Proofs.YtmgcaohpbaiiaaaGreatDoor
