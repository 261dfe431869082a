/- The reference's sorting of numbers: the walk. -/
import Derived.Test.YtmgcaohpbaiiaaaGreatDoorVd
set_option linter.unusedSimpArgs false
set_option linter.unusedVariables false
namespace Go.Proofs.YtmgcaohpbaiiaaaGreatDoor
open Go.RowKit Go.Maps Go.Shelf
/-- one more number in a row of one's own -/
theorem zpush {B : Nat} {w w1 : World} {ao : Option Addr} {c : Nat} {s : List Int} (h : w.ownsRow B 3 1 (.slice ao s.length c) s.length (s.map (Value.int .i64))) (hB1 : Below w.heap.size w w1) (hb : B ≤ w.heap.size) (x : Int) (hn : s.length ≤ 100000) :
    ∃ a1 c1 w2, (Builtin.append_ #[44, 44] 44 #[.slice ao s.length c, .slice (some ⟨w1.heap.size, 0, none⟩) 1 1]).run Tryz.prog (w1.alloc (.cells #[.int .i64 x] 3)) = .ok (.slice a1 (s.length + 1) c1) w2 ∧
      w2.ownsRow B 3 1 (.slice a1 (s ++ [x]).length c1) (s ++ [x]).length ((s ++ [x]).map (Value.int .i64)) ∧ Upd (fun b => (Value.slice ao s.length c).ownBlock = some b) w w2 ∧
      (∀ b, (Value.slice a1 (s ++ [x]).length c1).ownBlock = some b → (Value.slice ao s.length c).ownBlock = some b ∨ w.heap.size ≤ b) := by
  have hsz1 := hB1.size
  have h1 : (w1.alloc (.cells #[.int .i64 x] 3)).ownsRow B 3 1 (.slice ao s.length c) s.length (s.map (Value.int .i64)) := by
    refine ownsRow_keep h fun g hg => ?_
    have hgl := (h.lt g hg).2
    rw [Below.heap_alloc _ _ _ (by omega)]
    exact hB1.block g hgl
  obtain ⟨a1, c1, w2, r1, o1, g1, t1⟩ := many_append 3 44 (.int .i64 0) 1 8 info_int Tryz.underlying44 rfl (by decide) (by decide) (w1.alloc (.cells #[.int .i64 x] 3)) B (.slice ao s.length c) s.length (s.map (Value.int .i64)) h1 ⟨w1.heap.size, 0, none⟩ 1 1 [.int .i64 x] rfl
    (fun j u hj => by
      obtain rfl : j = 0 := by have := (List.getElem?_eq_some_iff.1 hj).1; simpa using this
      simp at hj
      subst hj
      rw [add_none, cell_of (heap_alloc_new' w1 _)]; rfl)
    (fun u hu => by simp at hu; subst hu; rfl) (by simp; omega) (by simp; omega)
  have hBa : Below w.heap.size w (w1.alloc (.cells #[.int .i64 x] 3)) := hB1.alloc (by omega) _
  refine ⟨a1, c1, w2, r1, ?_, (Upd.below hBa (by omega)).grown g1 fun k e hk => e, fun b hb => ?_⟩
  · rw [List.map_append]
    simpa using o1
  · rw [List.length_append] at hb
    rcases t1 with e | e
    · exact .inl (by rw [← e]; exact hb)
    · have h5 := Option.some.inj (e.symm.trans hb)
      right
      have : (w1.alloc (.cells #[.int .i64 x] 3)).heap.size = w1.heap.size + 1 := by simp
      omega
/-- two rows of one's own, apart: o is read, nx grows -/
structure SJ (w wr : World) (ao : Option Addr) (co : Nat) (o : List Int) (an : Option Addr) (cn : Nat) (nx : List Int) : Prop where
  own : wr.ownsRow w.heap.size 3 1 (.slice ao o.length co) o.length (o.map (Value.int .i64))
  nxt : wr.ownsRow w.heap.size 3 1 (.slice an nx.length cn) nx.length (nx.map (Value.int .i64))
  apart : ∀ b, (Value.slice an nx.length cn).ownBlock = some b → (Value.slice ao o.length co).ownBlock ≠ some b
  bel : Below w.heap.size w wr
section
variable {w wr W1 : World} {ao an : Option Addr} {co cn : Nat} {o nx : List Int}
theorem SJ.made (h : SJ w wr ao co o an cn nx) (hB : Below wr.heap.size wr W1) : SJ w W1 ao co o an cn nx :=
  ⟨ownsRow_keep h.own fun g hg => hB.block g (h.own.lt g hg).2, ownsRow_keep h.nxt fun g hg => hB.block g (h.nxt.lt g hg).2, h.apart, h.bel.trans (hB.mono h.bel.size)⟩
theorem SJ.start (h : wr.ownsRow w.heap.size 3 1 (.slice ao o.length co) o.length (o.map (Value.int .i64))) (hB : Below w.heap.size w wr) : SJ w wr ao co o none 0 [] :=
  ⟨h, World.ownsRow_nil _ _ _ _, fun b hb => by simp [Value.ownBlock] at hb, hB⟩
theorem SJ.cell (h : SJ w wr ao co o an cn nx) {j : Nat} (hj : j < o.length) : ∃ g, ao = some ⟨g, 0, none⟩ ∧ wr.cell? ⟨g, j, none⟩ = some (.int .i64 (o[j]'hj)) := by
  rcases h.own.2 with ⟨hv, h0⟩ | ⟨g, cap', cur, hv, -⟩
  · omega
  simp at hv
  obtain ⟨rfl, rfl⟩ := hv
  refine ⟨g, rfl, ?_⟩
  rw [h.own.cellAt j (by omega), List.getElem?_map, List.getElem?_eq_getElem hj]; rfl
theorem SJ.push1 (h : SJ w wr ao co o an cn nx) (hB : Below wr.heap.size wr W1) (x : Int) (hn : nx.length ≤ 100000) : ∃ a1 c1 w2, (Builtin.append_ #[44, 44] 44 #[.slice an nx.length cn, .slice (some ⟨W1.heap.size, 0, none⟩) 1 1]).run Tryz.prog (W1.alloc (.cells #[.int .i64 x] 3)) = .ok (.slice a1 (nx.length + 1) c1) w2 ∧ SJ w w2 ao co o a1 c1 (nx ++ [x]) := by
  obtain ⟨a1, c1, w2, hr, ho, hu, hnew⟩ := zpush h.nxt hB h.bel.size x hn
  refine ⟨a1, c1, w2, hr, ⟨ownsRow_keep h.own fun g hg => hu.block g (h.own.lt g hg).2 fun hb => h.apart g hb hg, ho, fun b hb hc => ?_, h.bel.trans (hu.toBelow h.bel.size fun x hx hb => ?_)⟩⟩
  · rcases hnew b hb with e | e
    · exact h.apart b e hc
    · have := (h.own.lt b hc).2; omega
  · have := (h.nxt.lt x hb).1; omega
theorem SJ.push (h : SJ w wr ao co o an cn nx) (x : Int) (hn : nx.length ≤ 100000) : ∃ f : World → Option Addr × Nat × World, ∀ W1, Below wr.heap.size wr W1 → ∀ b, W1.heap.size = b → (Builtin.append_ #[44, 44] 44 #[.slice an nx.length cn, .slice (some ⟨b, 0, none⟩) 1 1]).run Tryz.prog (W1.alloc (.cells #[.int .i64 x] 3)) = .ok (.slice (f W1).1 (nx.length + 1) (f W1).2.1) (f W1).2.2 ∧ SJ w (f W1).2.2 ao co o (f W1).1 (f W1).2.1 (nx ++ [x]) := by
  refine Classical.axiomOfChoice (r := fun W1 (r : Option Addr × Nat × World) => Below wr.heap.size wr W1 → ∀ b, W1.heap.size = b → (Builtin.append_ #[44, 44] 44 #[.slice an nx.length cn, .slice (some ⟨b, 0, none⟩) 1 1]).run Tryz.prog (W1.alloc (.cells #[.int .i64 x] 3)) = .ok (.slice r.1 (nx.length + 1) r.2.1) r.2.2 ∧ SJ w r.2.2 ao co o r.1 r.2.1 (nx ++ [x])) fun W1 => ?_
  by_cases hB : Below wr.heap.size wr W1
  · obtain ⟨a1, c1, w2, hr, hs⟩ := h.push1 hB x hn
    exact ⟨(a1, c1, w2), fun _ b hb => by subst hb; exact ⟨hr, hs⟩⟩
  · exact ⟨(none, 0, W1), fun h => absurd h hB⟩
theorem SJ.push2 (h : SJ w wr ao co o an cn nx) (x y : Int) (hn : nx.length ≤ 90000) : ∃ f g : World → Option Addr × Nat × World, ∀ W1, Below wr.heap.size wr W1 → (∀ b, W1.heap.size = b → (Builtin.append_ #[44, 44] 44 #[.slice an nx.length cn, .slice (some ⟨b, 0, none⟩) 1 1]).run Tryz.prog (W1.alloc (.cells #[.int .i64 x] 3)) = .ok (.slice (f W1).1 (nx.length + 1) (f W1).2.1) (f W1).2.2) ∧ (SJ w (f W1).2.2 ao co o (f W1).1 (f W1).2.1 (nx ++ [x])) ∧
    (∀ b, (f W1).2.2.heap.size = b → (Builtin.append_ #[44, 44] 44 #[.slice (f W1).1 (nx.length + 1) (f W1).2.1, .slice (some ⟨b, 0, none⟩) 1 1]).run Tryz.prog ((f W1).2.2.alloc (.cells #[.int .i64 y] 3)) = .ok (.slice (g W1).1 (nx.length + 1 + 1) (g W1).2.1) (g W1).2.2) ∧ SJ w (g W1).2.2 ao co o (g W1).1 (g W1).2.1 (nx ++ [x] ++ [y]) := by
  obtain ⟨f, hf⟩ := h.push x (by omega)
  have : ∃ g : World → Option Addr × Nat × World, ∀ W1, Below wr.heap.size wr W1 → (∀ b, (f W1).2.2.heap.size = b → (Builtin.append_ #[44, 44] 44 #[.slice (f W1).1 (nx.length + 1) (f W1).2.1, .slice (some ⟨b, 0, none⟩) 1 1]).run Tryz.prog ((f W1).2.2.alloc (.cells #[.int .i64 y] 3)) = .ok (.slice (g W1).1 (nx.length + 1 + 1) (g W1).2.1) (g W1).2.2) ∧ SJ w (g W1).2.2 ao co o (g W1).1 (g W1).2.1 (nx ++ [x] ++ [y]) := by
    refine Classical.axiomOfChoice (r := fun W1 (r : Option Addr × Nat × World) => Below wr.heap.size wr W1 → (∀ b, (f W1).2.2.heap.size = b → (Builtin.append_ #[44, 44] 44 #[.slice (f W1).1 (nx.length + 1) (f W1).2.1, .slice (some ⟨b, 0, none⟩) 1 1]).run Tryz.prog ((f W1).2.2.alloc (.cells #[.int .i64 y] 3)) = .ok (.slice r.1 (nx.length + 1 + 1) r.2.1) r.2.2) ∧ SJ w r.2.2 ao co o r.1 r.2.1 (nx ++ [x] ++ [y])) fun W1 => ?_
    by_cases hB : Below wr.heap.size wr W1
    · have h2 := (hf W1 hB _ rfl).2
      obtain ⟨a1, c1, w2, hr, hs⟩ := h2.push1 (Below.refl _ _) y (by simp; omega)
      rw [List.length_append, List.length_singleton] at hr
      exact ⟨(a1, c1, w2), fun _ => ⟨fun b hb => by subst hb; exact hr, hs⟩⟩
    · exact ⟨(none, 0, W1), fun h => absurd h hB⟩
  obtain ⟨g, hg⟩ := this
  exact ⟨f, g, fun W1 hB => ⟨fun b hb => (hf W1 hB b hb).1, (hf W1 hB _ rfl).2, (hg W1 hB).1, (hg W1 hB).2⟩⟩
end
def stepZ (x : Int) (s : List Int × Bool) (y : Int) : List Int × Bool := if s.2 = false ∧ x ≤ y then (if x = y then (s.1 ++ [y], true) else (s.1 ++ [x] ++ [y], true)) else (s.1 ++ [y], s.2)
def finZ (x : Int) (s : List Int × Bool) : List Int := if s.2 then s.1 else s.1 ++ [x]
theorem step_true (x : Int) : ∀ (o n : List Int), finZ x (o.foldl (stepZ x) (n, true)) = n ++ o
  | [], n => by simp [finZ]
  | y :: r, n => by
    rw [List.foldl_cons]
    have : stepZ x (n, true) y = (n ++ [y], true) := by simp [stepZ]
    rw [this, step_true x r]
    simp
theorem step_ins (x : Int) : ∀ (o n : List Int), finZ x (o.foldl (stepZ x) (n, false)) = n ++ insZ x o
  | [], n => by simp [finZ, insZ]
  | y :: r, n => by
    rw [List.foldl_cons]
    unfold insZ
    by_cases h : x ≤ y
    · by_cases h2 : x = y
      · have : stepZ x (n, false) y = (n ++ [y], true) := by simp [stepZ, h, h2]
        rw [this, step_true, if_pos h, if_pos h2]; simp
      · have : stepZ x (n, false) y = (n ++ [x] ++ [y], true) := by simp [stepZ, h, h2]
        rw [this, step_true, if_pos h, if_neg h2]; simp
    · have : stepZ x (n, false) y = (n ++ [y], false) := by simp [stepZ, h]
      rw [this, step_ins x r, if_neg h]; simp
theorem len_insZ (x : Int) : ∀ o : List Int, (insZ x o).length ≤ o.length + 1
  | [] => by simp [insZ]
  | y :: r => by
    have := len_insZ x r
    unfold insZ
    split
    · split <;> simp
    · simp; omega
set_option maxHeartbeats 4000000 in
set_option maxRecDepth 100000 in
theorem rsorted_any (w : World) (ai : Option Addr) (ci : Nat) (l : List Int) (hz : ZRow w ai l) (hn : l.length ≤ 80000) :
    Calls Tryz.prog 23 #[.slice ai l.length ci] w fun e w' => ∃ ao co, e = .returned (.slice ao (risZ l).length co) ∧ ZRow w' ao (risZ l) ∧ Below w.heap.size w w' := by
  have HC : Hid (∀ wr, Below w.heap.size w wr → ∀ k (hk : k < l.length), ∃ g off, ai = some ⟨g, off, none⟩ ∧ (∀ W, Below wr.heap.size wr W → W.cell? ⟨g, off + k, none⟩ = some (.int .i64 (l[k]'hk)))) := fun wr hB k hk => by
    obtain ⟨g, off, e, hg, -⟩ := hz k hk
    refine ⟨g, off, e, fun W hW => ?_⟩
    obtain ⟨g', off', e', -, hc⟩ := (hz.made (hB.trans (hW.mono hB.size))) k hk
    rw [e] at e'
    simp at e'
    obtain ⟨rfl, rfl⟩ := e'
    exact hc
  have HS : Hid (∀ k (hk : k < l.length) (o : List Int), (l.drop k).foldl (fun a x => insZ x a) o = risZ l → (l.drop (k + 1)).foldl (fun a x => insZ x a) (insZ (l[k]'hk) o) = risZ l) := fun k hk o h => by
    rw [List.drop_eq_getElem_cons hk, List.foldl_cons] at h
    exact h
  have HE : Hid (∀ o : List Int, (l.drop l.length).foldl (fun a x => insZ x a) o = risZ l → o = risZ l) := fun o h => by simpa using h
  have H0 : Hid ((l.drop 0).foldl (fun a x => insZ x a) [] = risZ l) := rfl
  clear hz
  obtain ⟨m, HM⟩ : ∃ m, Hid (l.length = m) := ⟨_, Lib.hid rfl⟩
  rw [HM.out] at hn HE ⊢
  generalize risZ l = res at *
  go_enter Tryz.func23, Tryz.ntmps23
  go_wp2
  go_loopw [3, 10] (fun u v wr => ∃ (k : Nat) (ao : Option Addr) (co : Nat) (o : List Int), u = .slice ao o.length co ∧ v = .int .i64 k ∧ k ≤ m ∧ o.length ≤ k ∧ Hid ((l.drop k).foldl (fun a x => insZ x a) o = res) ∧ Hid (SJ w wr ao co o none 0 [])) (fun _ v _ => m - (intOf v).toNat)
  case atStart => exact ⟨0, none, 0, [], rfl, rfl, by omega, by simp, H0, SJ.start (World.ownsRow_nil _ _ _ _) (Below.refl _ _)⟩
  case round =>
    obtain ⟨k, ao, co, o, rfl, rfl, hk, hok, HF, HJ⟩ := hrel
    by_cases hlt : k < m
    · have hlt' : k < l.length := by rw [HM.out]; exact hlt
      have HF2 := Lib.hid (HS.out k hlt' o HF.out)
      have HX : Hid (∀ wr, Below w.heap.size w wr → ∃ g off, ai = some ⟨g, off, none⟩ ∧ (∀ W, Below wr.heap.size wr W → W.cell? ⟨g, off + k, none⟩ = some (.int .i64 (l[k]'hlt')))) := fun wr hB => HC.out wr hB k hlt'
      have HI : Hid (finZ (l[k]'hlt') ((o.drop 0).foldl (stepZ (l[k]'hlt')) ([], false)) = insZ (l[k]'hlt') o) := by
        show _ = _
        rw [List.drop_zero, step_ins]; rfl
      have HLN := len_insZ (l[k]'hlt') o
      have HIE : Hid (∀ nx b, finZ (l[k]'hlt') ((o.drop o.length).foldl (stepZ (l[k]'hlt')) (nx, b)) = insZ (l[k]'hlt') o → (b = true → nx = insZ (l[k]'hlt') o) ∧ (b = false → nx ++ [l[k]'hlt'] = insZ (l[k]'hlt') o)) := fun nx b h => by
        rw [List.drop_length, List.foldl_nil] at h
        unfold finZ at h
        constructor
        · rintro rfl; simpa using h
        · rintro rfl; simpa using h
      have HIS : Hid (∀ j (hj : j < o.length) nx b, finZ (l[k]'hlt') ((o.drop j).foldl (stepZ (l[k]'hlt')) (nx, b)) = insZ (l[k]'hlt') o → finZ (l[k]'hlt') ((o.drop (j + 1)).foldl (stepZ (l[k]'hlt')) (stepZ (l[k]'hlt') (nx, b) (o[j]'hj))) = insZ (l[k]'hlt') o) := fun j hj nx b h => by
        rw [List.drop_eq_getElem_cons hj, List.foldl_cons] at h
        exact h
      clear HC HS HF H0 HE
      generalize l[k] = x at *
      generalize insZ x o = o2 at *
      obtain ⟨p, HP⟩ : ∃ p, Hid (o.length = p) := ⟨_, Lib.hid rfl⟩
      rw [HP.out] at hok HLN HIE ⊢
      go_wp2
      go_loopw [5, 6, 15] (fun u b v wq => ∃ (j : Nat) (an : Option Addr) (cn : Nat) (nx : List Int) (bb : Bool), u = .slice an nx.length cn ∧ b = .bool bb ∧ v = .int .i64 j ∧ j ≤ p ∧ nx.length ≤ j + bb.toNat ∧ Hid (finZ x ((o.drop j).foldl (stepZ x) (nx, bb)) = o2) ∧ Hid (SJ w wq ao co o an cn nx)) (fun _ _ v _ => p - (intOf v).toNat)
      case atStart => exact ⟨0, none, 0, [], false, rfl, rfl, rfl, by omega, by simp, HI, HJ⟩
      case round =>
        obtain ⟨j, an, cn, nx, bb, rfl, rfl, rfl, hj, hnx, HG, HQ⟩ := hrel
        clear HI HJ
        have hbb : bb.toNat ≤ 1 := by cases bb <;> simp
        by_cases hjlt : j < p
        · have hj' : j < o.length := by rw [HP.out]; exact hjlt
          have HG2 := Lib.hid (HIS.out j hj' nx bb HG.out)
          obtain ⟨g, off, rfl, hcx⟩ := HX.out wr HQ.out.bel
          obtain ⟨g2, rfl, hco⟩ := HQ.out.cell hj'
          have hx0 : wr.cell? ⟨g, off + k, none⟩ = some (.int .i64 x) := hcx wr (Below.refl _ _)
          have hx1 : ∀ q, (wr.drewN q).cell? ⟨g, off + k, none⟩ = some (.int .i64 x) := fun q => hx0
          have hy1 : ∀ q, (wr.drewN q).cell? ⟨g2, j, none⟩ = some (.int .i64 (o[j]'hj')) := fun q => hco
          have hlp : nx.length ≤ 100000 := by omega
          cases bb with
          | true =>
            simp only [Bool.toNat_true] at hnx
            have HG3 : Hid (finZ x ((o.drop (j + 1)).foldl (stepZ x) (nx ++ [o[j]'hj'], true)) = o2) := by
              have := HG2.out
              show _ = _
              simpa [stepZ] using this
            obtain ⟨f, hf⟩ := HQ.out.push (o[j]'hj') hlp
            have HFF := Lib.hid fun W1 h => (hf W1 h _ rfl).2
            have hf1 := fun W1 h b e => (hf W1 h b e).1
            clear hf HG2 HG HX HIS HIE HQ hcx hx0 HLN
            generalize hlx : nx.length = nl at *
            generalize o[j] = y at *
            go_upto_region 10 with fail
            go_quiet (fail)
            go_wp2_with (at_builtin; refine wpList_append_run (hf1 _ (drewN_below _ _) _ (by simp)) rfl rfl rfl rfl rfl ?_)
            go_roundw
            case rel => exact ⟨j + 1, _, _, nx ++ [y], true, by simp [hlx], rfl, by go_num, by omega, by simp; omega, HG3, HFF.out _ (drewN_below _ _)⟩
            case measure => simp [intOf]; omega
          | false =>
            simp only [Bool.toNat_false] at hnx
            by_cases hxy : x ≤ o[j]'hj'
            · by_cases hxe : x = o[j]'hj'
              · have HG3 : Hid (finZ x ((o.drop (j + 1)).foldl (stepZ x) (nx ++ [o[j]'hj'], true)) = o2) := by
                  have := HG2.out
                  show _ = _
                  rwa [show stepZ x (nx, false) (o[j]'hj') = (nx ++ [o[j]'hj'], true) by simp only [stepZ]; rw [if_pos ⟨trivial, hxy⟩, if_pos hxe]] at this
                obtain ⟨f, hf⟩ := HQ.out.push (o[j]'hj') hlp
                have HFF := Lib.hid fun W1 h => (hf W1 h _ rfl).2
                have hf1 := fun W1 h b e => (hf W1 h b e).1
                rw [← hxe] at hy1
                clear hf HG2 HG HX HIS HIE HQ hcx hx0 HLN hco
                generalize hlx : nx.length = nl at *
                generalize o[j] = y at *
                subst hxe
                go_upto_region 10 with fail
                go_quiet (fail)
                go_upto_region 12 with fail
                go_quiet (fail)
                go_wp2_with (at_builtin; refine wpList_append_run (hf1 _ (drewN_below _ _) _ (by simp)) rfl rfl rfl rfl rfl ?_)
                go_roundw
                case rel => exact ⟨j + 1, _, _, nx ++ [x], true, by simp [hlx], rfl, by go_num, by omega, by simp; omega, HG3, HFF.out _ (drewN_below _ _)⟩
                case measure => simp [intOf]; omega
              · have HG3 : Hid (finZ x ((o.drop (j + 1)).foldl (stepZ x) (nx ++ [x] ++ [o[j]'hj'], true)) = o2) := by
                  have := HG2.out
                  show _ = _
                  rwa [show stepZ x (nx, false) (o[j]'hj') = (nx ++ [x] ++ [o[j]'hj'], true) by simp only [stepZ]; rw [if_pos ⟨trivial, hxy⟩, if_neg hxe]] at this
                obtain ⟨f, f2, hf⟩ := HQ.out.push2 x (o[j]'hj') (by omega)
                have HFF := Lib.hid fun W1 h => (hf W1 h).2.2.2
                have hf1 := fun W1 h b e => (hf W1 h).1 b e
                have hf2 := fun W1 h b e => (hf W1 h).2.2.1 b e
                have hyf : ∀ q, (f (wr.drewN q)).2.2.cell? ⟨g2, j, none⟩ = some (.int .i64 (o[j]'hj')) := fun q => by
                  obtain ⟨g3, e3, h3⟩ := (hf _ (drewN_below wr q)).2.1.cell hj'
                  simp at e3
                  subst e3
                  exact h3
                clear hf HG2 HG HX HIS HIE HQ hcx hx0 HLN hco
                generalize hlx : nx.length = nl at *
                generalize o[j] = y at *
                go_upto_region 10 with fail
                go_quiet (fail)
                go_upto_region 12 with fail
                go_quiet (fail)
                go_upto_region 14 with (at_builtin; refine wpList_append_run (hf1 _ (drewN_below _ _) _ (by simp)) rfl rfl rfl rfl rfl ?_)
                go_wp2_with (at_builtin; refine wpList_append_run (hf2 _ (drewN_below _ _) _ (by simp)) rfl rfl rfl rfl rfl ?_)
                go_roundw
                case rel => exact ⟨j + 1, _, _, nx ++ [x] ++ [y], true, by simp [hlx], rfl, by go_num, by omega, by simp; omega, HG3, HFF.out _ (drewN_below _ _)⟩
                case measure => simp [intOf]; omega
            · have HG3 : Hid (finZ x ((o.drop (j + 1)).foldl (stepZ x) (nx ++ [o[j]'hj'], false)) = o2) := by
                have := HG2.out
                show _ = _
                rwa [show stepZ x (nx, false) (o[j]'hj') = (nx ++ [o[j]'hj'], false) by simp only [stepZ]; rw [if_neg (fun h => hxy h.2)]] at this
              obtain ⟨f, hf⟩ := HQ.out.push (o[j]'hj') hlp
              have HFF := Lib.hid fun W1 h => (hf W1 h _ rfl).2
              have hf1 := fun W1 h b e => (hf W1 h b e).1
              clear hf HG2 HG HX HIS HIE HQ hcx hx0 HLN hco
              generalize hlx : nx.length = nl at *
              generalize o[j] = y at *
              go_upto_region 10 with fail
              go_quiet (fail)
              go_wp2_with (at_builtin; refine wpList_append_run (hf1 _ (drewN_below _ _) _ (by simp)) rfl rfl rfl rfl rfl ?_)
              go_roundw
              case rel => exact ⟨j + 1, _, _, nx ++ [y], false, by simp [hlx], rfl, by go_num, by omega, by simp; omega, HG3, HFF.out _ (drewN_below _ _)⟩
              case measure => simp [intOf]; omega
        · obtain rfl : j = p := by omega
          obtain ⟨h1, h2⟩ := HIE.out nx bb HG.out
          cases bb with
          | true =>
            have h3 := h1 rfl
            subst h3
            have HJ2 := Lib.hid (SJ.start HQ.out.nxt HQ.out.bel)
            clear h1 h2 HG HX HIS HIE HQ
            go_wp2
            go_roundw
            case rel => exact ⟨k + 1, _, _, nx, by rfl, by go_num, by omega, by omega, HF2, HJ2⟩
            case measure => simp [intOf]; omega
          | false =>
            have h3 := h2 rfl
            obtain ⟨g, off, rfl, hcx⟩ := HX.out wr HQ.out.bel
            have hx0 : wr.cell? ⟨g, off + k, none⟩ = some (.int .i64 x) := hcx wr (Below.refl _ _)
            obtain ⟨f, hf⟩ := HQ.out.push x (by omega)
            obtain ⟨hf1, hf2⟩ := hf wr (Below.refl _ _) _ rfl
            rw [h3] at hf2
            have HJ2 := Lib.hid (SJ.start hf2.nxt hf2.bel)
            have HL3 : Hid (nx.length + 1 = o2.length) := by show _ = _; rw [← h3]; simp
            clear h1 h2 HG HX HIS HIE HQ hf hf2 hcx
            generalize hlx : nx.length = nl at *
            generalize f wr = fw at *
            go_wp2_with (at_builtin; refine wpList_append_run hf1 rfl rfl rfl rfl rfl ?_)
            go_roundw
            case rel => exact ⟨k + 1, _, _, o2, by rw [HL3.out], by go_num, by omega, by omega, HF2, HJ2⟩
            case measure => simp [intOf]; omega
    · obtain rfl : k = m := by omega
      have he := HE.out o HF.out
      subst he
      have HZ := Lib.hid (zrow_of HJ.out.own)
      have HB := Lib.hid HJ.out.bel
      go_wp2
      go_ret
      exact ⟨ao, co, rfl, HZ.out, HB.out⟩
end Go.Proofs.YtmgcaohpbaiiaaaGreatDoor
