/- slices.Replace of one entry by one or two. -/
import Derived.Test.YtmgcaohpbaiiaaaGreatDoorTIns2
set_option linter.unusedSimpArgs false
set_option linter.unusedVariables false
namespace Go.Proofs.YtmgcaohpbaiiaaaGreatDoor
open Go.RowKit Go.Maps Go.Shelf Go.Builtin

/-- entries in the place of one -/
def repL (l : List Ent) (i : Nat) (m : List Ent) : List Ent := l.take i ++ m ++ l.drop (i + 1)
theorem run_clear_none (w : World) (ty : TypeId) (ao : Option Addr) (c : Nat) : (Builtin.clear_ #[31] ty #[.slice ao 0 c]).run Tryz.prog w = .ok (.tuple #[]) w := by
  cases ao <;> simp [Builtin.clear_, run_underlying Tryz.underlying31, Result.andThen]

set_option maxHeartbeats 4000000 in
set_option maxRecDepth 100000 in
/-- the last one -/
theorem replace_end (w : World) (B g c : Nat) (l m : List Ent) (h : EOwn w B (.slice (some ⟨g, 0, none⟩) l.length c) l) (hB : B ≤ w.heap.size) (i : Nat) (hi : i + 1 = l.length) (vb vc : Nat) (hm : ERow w (some ⟨vb, 0, none⟩) m) (hm0 : 0 < m.length) (hm2 : m.length ≤ 2) (hn : l.length ≤ 100000) :
    Calls Tryz.prog 86 #[.slice (some ⟨g, 0, none⟩) l.length c, .int .i64 i, .int .i64 ((i : Int) + 1), .slice (some ⟨vb, 0, none⟩) m.length vc] w fun e w' => ∃ v', e = .returned v' ∧ EOwn w' B v' (repL l i m) ∧ Below B w w' := by
  have hlc : l.length ≤ c := by obtain ⟨_, _, _, _, _, _, h5, _⟩ := h.block; exact h5
  have hlt := (h.lt g rfl)
  have hlen : (l.take i).length = i := by rw [List.length_take]; omega
  obtain ⟨a2, c2, w3, hr, ho, hg, ha⟩ := ent_append w B (.slice (some ⟨g, 0, none⟩) i c) (l.take i) m vc (some ⟨vb, 0, none⟩) (h.take (by omega) (by simp)) hm (.inr ⟨_, _, rfl⟩) (by omega) hB
  have HO : Hid (EOwn w3 B (.slice a2 ((l.take i).length + m.length) c2) (repL l i m)) := by
    unfold repL
    rw [List.drop_of_length_le (by omega), List.append_nil]; exact ho
  have HB := Lib.hid (grown_below hg (fun b hb => by simp [Value.ownBlock] at hb; omega) hB)
  rw [hlen] at hr HO
  clear ho hg ha h hm hlt hlen
  generalize hnl : l.length = n at *
  generalize hml : m.length = k at *
  clear hnl hml
  subst hi
  have e1 : i ≤ c := by omega
  have e2 : (i : Int) + 1 ≤ (c : Int) := by omega
  have e3 : (0 : Int) ≤ (i : Int) + 1 := by omega
  have e4 : ¬ ((i : Int) + (k : Int) < (i : Int) + 1) := by omega
  go_enter Tryz.func86, Tryz.ntmps86
  go_wp2_with (at_builtin; refine wpList_append_run hr rfl rfl rfl rfl rfl ?_)
  all_goals
    go_ret
    exact ⟨_, rfl, HO.out, HB.out⟩
set_option maxHeartbeats 4000000 in
set_option maxRecDepth 100000 in
/-- not the last one, where there is no room -/
theorem replace_grow (w : World) (B g c : Nat) (l m : List Ent) (h : EOwn w B (.slice (some ⟨g, 0, none⟩) l.length c) l) (hB : B ≤ w.heap.size) (i : Nat) (hi : i + 1 < l.length) (vb vc : Nat) (hm : ERow w (some ⟨vb, 0, none⟩) m) (hm2 : m.length = 2) (hc : c < l.length + 1) (hn : l.length ≤ 100000) :
    Calls Tryz.prog 86 #[.slice (some ⟨g, 0, none⟩) l.length c, .int .i64 i, .int .i64 ((i : Int) + 1), .slice (some ⟨vb, 0, none⟩) m.length vc] w fun e w' => ∃ v', e = .returned v' ∧ EOwn w' B v' (repL l i m) ∧ Below B w w' := by
  have hlc : l.length ≤ c := by obtain ⟨_, _, _, _, _, _, h5, _⟩ := h.block; exact h5
  obtain ⟨cap, W1, W2, W3, h1, hcap, h2, h3, ho, hb⟩ := grow_row w.drew B g c i (i + 1) l m (h.drewN 1) hB (by omega) (by omega) hn (by omega) (by omega) vb 0 vc (fun j u hj => by
    obtain ⟨g', off', e, hcj⟩ := hm j u hj
    simp at e
    obtain ⟨rfl, rfl⟩ := e
    exact hcj) (by omega) (.inl (by omega))
  have HO : Hid (EOwn W3 B (.slice (some ⟨w.heap.size, 0, none⟩) (i + (m.length + (l.length - (i + 1)))) cap) (repL l i m)) := ho
  have HB : Hid (Below B w W3) := Lib.hid (((Below.refl _ w).drew).trans (hb.mono hB))
  change _ = Result.ok (Value.slice (some ⟨w.heap.size, 0, none⟩) _ _) _ at h1
  change ∀ dc, (Builtin.copy_ _ _ #[Value.slice (some ⟨w.heap.size, _, none⟩) _ dc, _]).run _ _ = _ at h2
  change ∀ dc sc, (Builtin.copy_ _ _ #[Value.slice (some ⟨w.heap.size, _, none⟩) _ dc, _]).run _ _ = _ at h3
  clear ho hb hm h
  rw [hm2] at h1 h2 h3 hcap HO ⊢
  generalize hnl : l.length = n at *
  rw [show ((2 + (n - (i + 1)) : Nat) : Int) = (n : Int) + 1 - (i : Int) by omega, show i + (2 + (n - (i + 1))) = n + 1 by omega] at h1
  rw [show 2 + (n - (i + 1)) = n + 1 - i by omega] at h2
  rw [show i + (2 + (n - (i + 1))) = n + 1 by omega] at hcap HO
  have H3 := Lib.hid h3
  clear hnl h3
  have e1 : ¬ c = i + 1 := by omega
  have e2 : ¬ cap = i + 2 := by omega
  have e3 : ¬ cap = i := by omega
  have e4 : i ≤ c := by omega
  have e5 : ¬ ((i : Int) + 1 = (n : Int)) := by omega
  have e7 : (i : Int) + 1 ≤ (n : Int) := by omega
  have e7b : (i : Int) + 1 ≤ (c : Int) := by omega
  have e8 : (0 : Int) ≤ (i : Int) + 1 := by omega
  have e8b : (0 : Int) ≤ (i : Int) + 2 := by omega
  have e9 : (i : Int) + 2 + ((n - (i + 1) : Nat) : Int) = (n : Int) + 1 := by omega
  have e9b : IntKind.i64.wrap ((i : Int) + 2 + ((n - (i + 1) : Nat) : Int)) = (n : Int) + 1 := by rw [IntKind.wrap_i64]; omega
  have e9c : IntKind.i64.wrap ((i : Int) + 2) = (i : Int) + 2 := by rw [IntKind.wrap_i64]; omega
  have e9d : IntKind.i64.wrap ((i : Int) + 1) = (i : Int) + 1 := by rw [IntKind.wrap_i64]; omega
  have e10 : (c : Int) < (n : Int) + 1 := by omega
  have e11 : (i : Int) + 2 ≤ (n : Int) + 1 := by omega
  have e12 : i ≤ n + 1 := by omega
  have h3 := H3.out
  go_enter Tryz.func86, Tryz.ntmps86
  go_wp2_with fail
  go_region
  all_goals
    go_wp2_with (at_builtin; refine wpList_append_run2 h1 rfl rfl rfl rfl rfl ?_)
    go_region
    all_goals
      go_wp2
      go_ret
      exact ⟨_, rfl, HO.out, HB.out⟩
end Go.Proofs.YtmgcaohpbaiiaaaGreatDoor
