/- Tree.join: two pages side by side are made one, if they fit · Tree.take, at all depths. -/
import Derived.Test.YtmgcaohpbaiiaaaGreatDoorTPut
import Derived.Deep.RegionHeld3
import Derived.Test.YtmgcaohpbaiiaaaGreatDoorU7
namespace Go.Proofs.YtmgcaohpbaiiaaaGreatDoor
/-! TJoin -/
section
set_option linter.unusedSimpArgs false
set_option linter.unusedVariables false
open Go.RowKit Go.Maps Go.Shelf

section
variable {w0 w W W1 : World} {s dk t root B : Nat} {F F' F1 : Nat → Prop} {n N M : Int} {V D V1 : Int → ByteArray} {S S1 : TS} {v : Value} {l : List Ent}
theorem tjoin_neg (aL : Option Addr) (q c : Nat) (W : World) :
    Calls Tryz.prog 81 #[.pointer (some ⟨t, 0, none⟩), .slice aL q c, .int .i64 (-1)] W fun e w' => e = .returned (.slice aL q c) ∧ W = w' := by
  go_enter Tryz.func81, Tryz.ntmps81
  go_wp2
  go_ret
  exact ⟨rfl, rfl⟩
theorem tjoin_far (aL : Option Addr) (q c i : Nat) (W : World) (hi : q ≤ i + 1) (hq : i ≤ 1000) :
    Calls Tryz.prog 81 #[.pointer (some ⟨t, 0, none⟩), .slice aL q c, .int .i64 i] W fun e w' => e = .returned (.slice aL q c) ∧ W = w' := by
  have z1 : ¬ ((i : Int) < 0) := by omega
  have z2 : (q : Int) ≤ (i : Int) + 1 := by omega
  have z3 : (i : Int) ≤ 1000 := by omega
  go_enter Tryz.func81, Tryz.ntmps81
  go_wp2
  go_ret
  exact ⟨rfl, rfl⟩
set_option maxHeartbeats 4000000 in
set_option maxRecDepth 100000 in
theorem tjoin_any (h : TRun w0 w W s dk F F' n V D N t root S) (aL : Option Addr) (cL : Nat) (l : List Ent) (hrow : Row W F' w.heap.size (.slice aL l.length cL) l) (i : Nat) (l' : List Ent) (hj : joinM (jFirst n).toNat (spMany n) S l i = some (S1, l')) (hle : l.length ≤ 1000) (hil : i < l.length) (hall : ∀ q ∈ l, q.2.size ≤ 1000) (hN : N < 1000000000000) :
    Calls Tryz.prog 81 #[.pointer (some ⟨t, 0, none⟩), .slice aL l.length cL, .int .i64 i] W fun e w' => ∃ F1 V1 aX cX, e = .returned (.slice aX l'.length cX) ∧ TRun w0 w w' s dk F F1 n V1 D (N + 16) t root S1 ∧ Row w' F1 w.heap.size (.slice aX l'.length cX) l' := by
  by_cases hi : i + 1 < l.length
  · obtain ⟨x, hx⟩ : ∃ x, l[i]'(by omega) = x := ⟨_, rfl⟩
    obtain ⟨y, hy⟩ : ∃ y, l[i + 1] = y := ⟨_, rfl⟩
    unfold joinM at hj
    rw [List.getElem?_eq_getElem (by omega), List.getElem?_eq_getElem hi, hx, hy] at hj
    simp only at hj
    split at hj
    · cases hj
    rename_i hsz
    simp only [Option.bind_eq_some_iff] at hj
    obtain ⟨⟨ka, a⟩, hla, ⟨kb, b⟩, hlb, hj⟩ := hj
    simp only at hj
    split at hj
    · cases hj
    rename_i hb0
    have hfa := (loadM_ok h.tin.shows hla).1
    have hfb := (loadM_ok h.tin.shows hlb).1
    have hal := hfa.len
    have hbl := hfb.len
    have hsx := hall x (by rw [← hx]; exact List.getElem_mem _)
    have hsy := hall y (by rw [← hy]; exact List.getElem_mem _)
    have hza := hfa.size
    have hzb := hfb.size
    have hzab : lSize (a ++ b) ≤ 100000 := by unfold lSize at *; rw [lSum_append]; omega
    have HAT : Hid (∀ (W : World) G B aL cL, Row W G B (.slice aL l.length cL) l → ∃ g, aL = some ⟨g, 0, none⟩ ∧ l.length ≤ cL ∧ W.cell? ⟨g, i * 2, none⟩ = some (.string x.1) ∧ W.cell? ⟨g, i * 2 + 1, none⟩ = some (.string x.2) ∧ W.cell? ⟨g, (i + 1) * 2, none⟩ = some (.string y.1) ∧ W.cell? ⟨g, (i + 1) * 2 + 1, none⟩ = some (.string y.2)) := fun W G B aL cL hv => by
      obtain ⟨aL, cL, e0, er, -, -, hlc⟩ := hv.parts
      simp at e0
      obtain ⟨rfl, rfl⟩ := e0
      obtain ⟨g, off, rfl, c0, c1⟩ := er.at (show i < l.length by omega)
      obtain ⟨g2, off2, e2, c2, c3⟩ := er.at hi
      obtain ⟨g', cur, e, -⟩ := hv.own.block
      simp at e e2
      obtain ⟨rfl, rfl⟩ := e
      obtain ⟨rfl, rfl⟩ := e2
      rw [hx, Nat.zero_add] at c0 c1
      rw [hy, Nat.zero_add] at c2 c3
      exact ⟨g, rfl, hlc, c0, c1, c2, c3⟩
    have HPX : Hid (∀ W, Calls Tryz.prog 41 #[.agg #[.string x.1, .string x.2]] W fun e w' => e = .returned (.int .i64 (pgN x.2 : Nat)) ∧ Below W.heap.size W w') := fun W => page_of x.1 x.2 W (by omega) (by omega)
    have HPY : Hid (∀ W, Calls Tryz.prog 41 #[.agg #[.string y.1, .string y.2]] W fun e w' => e = .returned (.int .i64 (pgN y.2 : Nat)) ∧ Below W.heap.size W w') := fun W => page_of y.1 y.2 W (by omega) (by omega)
    have HM : Hid (∀ W, Calls Tryz.prog 44 #[.int .i64 0] W fun e w' => e = .returned (.tuple #[]) ∧ W = w') := fun W => must_ok W
    -- the two rows put together
    have HAP : Hid (∀ (W : World) G va vb U M, TRun w0 w W s dk F G n U D M t root S → Row W G w.heap.size va a → Row W G w.heap.size vb b → ∃ aA cA aB cB, va = .slice aA a.length cA ∧ vb = .slice aB b.length cB ∧ Calls Tryz.prog 80 #[.slice aA a.length cA] W fun e w' => ∃ aC cC w3 aD cD, e = .returned (.slice aC a.length cC) ∧ (Builtin.append_ #[31, 31] 31 #[.slice aC a.length cC, .slice aB b.length cB]).run Tryz.prog w' = .ok (.slice aD (a.length + b.length) cD) w3 ∧ TRun w0 w w3 s dk F G n U D M t root S ∧ Row w3 G w.heap.size (.slice aD (a.length + b.length) cD) (a ++ b) ∧ Keeps W G w3 G) := fun W G va vb U M hr ha hb => by
      obtain ⟨aA, cA, rfl, er, hat, hnil, -⟩ := ha.parts
      obtain ⟨aB, cB, rfl, erb, -⟩ := hb.parts
      refine ⟨aA, cA, aB, cB, rfl, rfl, (clone_any W aA cA a er hat hnil (by omega)).mono ?_⟩
      rintro e w' ⟨v2, he, ho, hB⟩
      obtain ⟨aC, cC, rfl, -⟩ := ho.parts
      obtain ⟨aD, cD, w3, hr3, ho3, hg3, -⟩ := ent_append w' W.heap.size (.slice aC a.length cC) a b cB aB ho (erb.made hB) (.inl hb0) (by omega) hB.size
      have hB3 : Below W.heap.size w' w3 := grown_below hg3 (fun x hx => (ho.lt x hx).1) hB.size
      have hWB : Below W.heap.size W w3 := hB.trans hB3
      have ho4 : EOwn w3 W.heap.size (.slice aD (a.length + b.length) cD) (a ++ b) := ho3
      exact ⟨aC, cC, w3, aD, cD, he, hr3, hr.made hWB, Row.new hr ho4, fun B v l hh => hh.made hWB⟩
    have hlb0 : 0 < b.length := List.length_pos_iff.2 hb0
    have HLX := fun (W1 : World) (F1 : Nat → Prop) (h1 : TRun w0 w W1 s dk F F1 n V D N t root S) => load_run h1 (pgN x.2) ka a hla (by omega)
    have HLY := fun (W1 : World) (F1 : Nat → Prop) (h1 : TRun w0 w W1 s dk F F1 n V D (N + 4) t root S) => load_run h1 (pgN y.2) kb b hlb (by omega)
    replace HLX := Lib.hid HLX
    replace HLY := Lib.hid HLY
    have HSZ : Hid (∀ (W : World) G aD cD, Row W G w.heap.size (.slice aD (a.length + b.length) cD) (a ++ b) → Calls Tryz.prog 87 #[.slice aD (a.length + b.length) cD] W fun e w' => e = .returned (.int .i64 (lSize (a ++ b) : Nat)) ∧ Below W.heap.size W w') := fun W G aD cD hv => by
      obtain ⟨_, _, e0, er, -⟩ := hv.parts
      rw [List.length_append] at e0 
      simp at e0
      obtain ⟨rfl, rfl⟩ := e0
      have := lsize_any W aD cD (a ++ b) er (by omega)
      rwa [List.length_append] at this
    have hj' := Lib.hid hj
    obtain ⟨g, rfl, hlc, c0, c1, -, -⟩ := HAT.out W F' _ _ _ hrow
    have hpx := HPX.out W
    have z1 : (i : Int) + 1 < (l.length : Int) := by omega
    have z2 : (l.length : Int) ≤ (cL : Int) := by omega
    have z3 : (l.length : Int) ≤ 1000 := by omega
    have z4 : ¬ ((i : Int) < 0) := by omega
    have z5 : ¬ ((l.length : Int) ≤ (i : Int) + 1) := by omega
    have HR0 := Lib.hid h
    have HROW := Lib.hid hrow
    clear h hrow hj hall hfa hfb hx hy hla hlb hza hzb hsx hsy hsz hb0
    obtain ⟨nl, HNL⟩ : ∃ nl, Hid (l.length = nl) := ⟨_, Lib.hid rfl⟩
    rw [HNL.out] at hle hil hi HAT hlc z1 z2 z3 z5 HROW ⊢
    generalize pgN x.2 = px at *
    generalize pgN y.2 = py at *
    go_enter Tryz.func81, Tryz.ntmps81
    go_wp2_with fail
    refine hpx.mono ?_
    rintro e w1 ⟨rfl, hB1⟩
    have hR1 := HR0.out.made hB1
    have row1 := HROW.out.made hB1
    have hlx := HLX.out w1 F' hR1
    clear hpx HLX HR0 HROW c0 c1
    go_wp2_with fail
    refine hlx.mono ?_
    rintro e w2 ⟨F2, va, rfl, hR2, rowa, k2⟩
    have row2 := k2 _ _ _ row1
    obtain ⟨g2, e2, -, -, -, c2, c3⟩ := HAT.out w2 F2 _ _ _ row2
    simp at e2
    subst e2
    have hpy := HPY.out w2
    clear hlx hR1 row1 k2
    go_wp2_with fail
    refine hpy.mono ?_
    rintro e w3 ⟨rfl, hB3⟩
    have hR3 := hR2.made hB3
    have row3 := row2.made hB3
    have rowa3 := rowa.made hB3
    have hly := HLY.out w3 F2 hR3
    clear hpy HLY hR2 row2 rowa c2 c3
    go_wp2_with fail
    refine hly.mono ?_
    rintro e w4 ⟨F4, vb, rfl, hR4, rowb4, k4⟩
    have row4 := k4 _ _ _ row3
    have rowa4 := k4 _ _ _ rowa3
    obtain ⟨aA, cA, aB, cB, rfl, rfl, hcl⟩ := HAP.out w4 F4 _ _ _ _ hR4 rowa4 rowb4
    clear hly hR3 row3 rowa3 rowa4 rowb4 k4 HAP hR4
    go_wp2_with fail
    refine hcl.mono ?_
    rintro e w5 ⟨aC, cC, w6, aD, cD, rfl, hap, hR6, rowd6, k6⟩
    have row6 := k6 _ _ _ row4
    have hsz := HSZ.out w6 F4 aD cD rowd6
    clear hcl row4 k6 HSZ
    go_wp2_with (at_builtin; refine wpList_append_run hap rfl rfl rfl rfl rfl ?_)
    clear hap
    by_cases hfit : 256 < lSize (a ++ b)
    · have hj2 := hj'.out
      rw [if_pos hfit] at hj2
      simp at hj2
      obtain ⟨rfl, rfl⟩ := hj2
      have zf : (256 : Int) < (lSize (a ++ b) : Int) := by omega
      refine hsz.mono ?_
      rintro e w7 ⟨rfl, hB7⟩
      have HFN : Hid (TRun w0 w w7 s dk F F4 n V D (N + 16) t root S ∧ Row w7 F4 w.heap.size (.slice (some ⟨g, 0, none⟩) l.length cL) l) := ⟨(hR6.made hB7).mono (by omega), by rw [HNL.out]; exact row6.made hB7⟩
      clear hsz hj' hR6 rowd6 row6 HAT hfit hzab
      generalize lSize (a ++ b) = lz at *
      go_wp2
      go_ret
      obtain ⟨f1, f2⟩ := HFN.out
      rw [HNL.out] at f2 ⊢
      exact ⟨F4, V, _, _, rfl, f1, f2⟩
    · have hj2 := hj'.out
      rw [if_neg hfit] at hj2
      simp only [Option.bind_eq_some_iff, Option.map_eq_some_iff] at hj2
      obtain ⟨S2, hst, S3, hrl, e9⟩ := hj2
      simp only [Prod.mk.injEq] at e9
      obtain ⟨rfl, hl3⟩ := e9
      have HL3 := Lib.hid hl3
      clear hl3
      have zf : ¬ ((256 : Int) < (lSize (a ++ b) : Int)) := by omega
      refine hsz.mono ?_
      rintro e w7 ⟨rfl, hB7⟩
      have hR7 := hR6.made hB7
      have rowd7 := rowd6.made hB7
      have row7 := row6.made hB7
      obtain ⟨g7, e7, -, c0, c1, -, -⟩ := HAT.out w7 F4 _ _ _ row7
      simp at e7
      subst e7
      have hpx := HPX.out w7
      clear hsz hj' hR6 rowd6 row6 hfit hzab HPX
      generalize lSize (a ++ b) = lz at *
      go_wp2_with fail
      refine hpx.mono ?_
      rintro e w8 ⟨rfl, hB8⟩
      have hR8 := hR7.made hB8
      have rowd8 := rowd7.made hB8
      have row8 := row7.made hB8
      have hst8 : Calls Tryz.prog 29 #[.pointer (some ⟨t, 0, none⟩), .int .i64 px, .int .i64 ka, .slice aD (a.length + b.length) cD] w8 fun e w' => ∃ F1 V1, e = .returned (.tuple #[]) ∧ TRun w0 w w' s dk F F1 n V1 D (N + 4 + 4 + 4) t root S2 ∧ Keeps w8 F4 w' F1 := by
        obtain ⟨_, _, e0, er, -⟩ := rowd8.parts
        rw [List.length_append] at e0
        simp at e0
        obtain ⟨rfl, rfl⟩ := e0
        have := store_run hR8 px ka (a ++ b) aD cD er hst (by omega)
        rwa [List.length_append] at this
      clear hpx hR7 rowd7 row7 c0 c1 hst rowd8
      go_wp2_with fail
      refine hst8.mono ?_
      rintro e w9 ⟨F9, V9, rfl, hR9, k9⟩
      have row9 := k9 _ _ _ row8
      have HS9 : Hid (∀ W, Below w9.heap.size w9 W → W.cell? ⟨t, 0, none⟩ = some (.pointer (some ⟨s, 0, none⟩)) ∧ W.cell? ⟨g, (i + 1) * 2, none⟩ = some (.string y.1) ∧ W.cell? ⟨g, (i + 1) * 2 + 1, none⟩ = some (.string y.2) ∧ Calls Tryz.prog 45 #[.pointer (some ⟨s, 0, none⟩), .int .i64 py] W fun e w' => e = .returned (.int .i64 0) ∧ ∃ F1 V1, TRun w0 w w' s dk F F1 n V1 D (N + 16) t root S3 ∧ Row w' F1 w.heap.size (.slice (some ⟨g, 0, none⟩) nl cL) l) := fun W hB => by
        obtain ⟨g7, e7, -, -, -, c2, c3⟩ := HAT.out W F9 _ _ _ (row9.made hB)
        simp at e7
        subst e7
        have hR := hR9.made hB
        refine ⟨hR.tin.cell.1, c2, c3, (rel_run hR py hrl (by omega)).mono ?_⟩
        rintro e w' ⟨he, F1, V1, h1, h2⟩
        exact ⟨he, F1, V1, h1.mono (by omega), h2 _ _ _ (row9.made hB)⟩
      obtain ⟨t9, c2, c3, -⟩ := HS9.out w9.drew ((Below.refl _ _).drew)
      have hpy := HPY.out w9.drew
      clear hst8 hR8 row8 k9 hR9 row9 HPY hrl
      have zw : IntKind.i64.wrap ((i : Int) + 1) = (i : Int) + 1 := IntWalk.i64_in _ (by omega)
      have z6 : (0 : Int) ≤ (i : Int) + 1 := by omega
      go_upto_region 9 with fail
      go_region_held3 (fun w' => w'.cell? ⟨t, 0, none⟩ = some (.pointer (some ⟨s, 0, none⟩)) ∧ w'.cell? ⟨g, (i + 1) * 2, none⟩ = some (.string y.1) ∧ w'.cell? ⟨g, (i + 1) * 2 + 1, none⟩ = some (.string y.2)) (go_keep) (first
        | (go_at_call 44; refine hm.mono ?_; rintro e w12 ⟨rfl, rfl⟩)
        | (go_at_call 45; refine hre.mono ?_; rintro e w11 ⟨rfl, F11, V11, hR11, row11⟩
           have hm := HM.out w11
           have HR11 := Lib.hid hR11
           have HROW11 := Lib.hid row11
           obtain ⟨g7, e7, -, -, -, d2, d3⟩ := HAT.out w11 F11 _ _ _ row11
           simp at e7
           subst e7
           have d1 := hR11.tin.cell.1)
        | (go_at_call 41; refine hpy.mono ?_; rintro e w10 ⟨rfl, hB10⟩
           have hB910 : Below w9.heap.size w9 w10 := ((Below.refl _ w9).drew).trans hB10
           obtain ⟨t10, b2, b3, hre⟩ := HS9.out w10 hB910))
      all_goals
        have HFN : Hid (∀ W, Below w11.heap.size w11 W → TRun w0 w W s dk F F11 n V11 D (N + 16) t root S3 ∧ (∃ aE cE, (Value.slice (some ⟨g, 0, none⟩) nl cL) = .slice aE nl cE ∧ Calls Tryz.prog 80 #[.slice aE nl cE] W fun e w' => ∃ v2, e = .returned v2 ∧ Calls Tryz.prog 79 #[v2, .int .i64 ((i : Int) + 1), .int .i64 ((i : Int) + 2)] w' fun e w'' => ∃ aX cX, e = .returned (.slice aX l'.length cX) ∧ TRun w0 w w'' s dk F F11 n V11 D (N + 16) t root S3 ∧ Row w'' F11 w.heap.size (.slice aX l'.length cX) l')) := fun W hB => by
          have hR := HR11.out.made hB
          refine ⟨hR, ?_⟩
          have hrow := HROW11.out.made hB
          rw [← HNL.out] at hrow ⊢
          obtain ⟨aE, cE, e0, er, hat, hnil, -⟩ := hrow.parts
          refine ⟨aE, cE, e0, (clone_any W aE cE l er hat hnil (by rw [HNL.out]; omega)).mono ?_⟩
          rintro e w' ⟨v2, he, ho, hB2⟩
          refine ⟨v2, he, ?_⟩
          have hdl := delete_any w' W.heap.size v2 l ho hB2.size (i + 1) (by rw [HNL.out]; exact hi) (by rw [HNL.out]; omega)
          rw [show (((i + 1 : Nat) : Int) + 1) = (i : Int) + 2 by omega, show ((i + 1 : Nat) : Int) = (i : Int) + 1 by omega] at hdl
          refine hdl.mono ?_
          rintro e w'' ⟨v3, he3, ho3, hB3⟩
          rw [HL3.out] at ho3
          have hrow3 := Row.new hR ho3
          obtain ⟨aX, cX, rfl, -⟩ := hrow3.parts
          exact ⟨aX, cX, he3, hR.made (hB2.trans hB3), hrow3⟩
        obtain ⟨-, aE, cE, e0, hcl⟩ := HFN.out w11 (Below.refl _ _)
        simp at e0
        obtain ⟨rfl, rfl⟩ := e0
        clear HFN HR11 HROW11 hpy HS9 HAT
        go_wp2_with fail
        refine hcl.mono ?_
        rintro e w13 ⟨v2, rfl, hdl⟩
        clear hcl
        go_wp2_with fail
        refine hdl.mono ?_
        rintro e w14 ⟨aX, cX, rfl, hR14, row14⟩
        clear hdl
        go_wp2
        go_ret
        exact ⟨F11, V11, aX, cX, rfl, hR14, row14⟩
  · have hj2 : joinM (jFirst n).toNat (spMany n) S l i = some (S, l) := by
      unfold joinM
      rw [List.getElem?_eq_none (show l.length ≤ i + 1 by omega)]
      cases l[i]? <;> rfl
    rw [hj2] at hj
    simp at hj
    obtain ⟨rfl, rfl⟩ := hj
    refine (tjoin_far aL l.length cL i W (by omega) (by omega)).mono ?_
    rintro e w' ⟨rfl, rfl⟩
    exact ⟨F', V, aL, cL, rfl, h.mono (by omega), hrow⟩
end
end
/-! TTakeW -/
section
set_option linter.unusedSimpArgs false
set_option linter.unusedVariables false
open Go.RowKit Go.Maps Go.Shelf

section
variable {w0 w W W1 : World} {s dk t root B : Nat} {F F' F1 : Nat → Prop} {n N M : Int} {V D V1 : Int → ByteArray} {S S1 : TS} {v : Value} {l : List Ent}
theorem joinM_len {f m i : Nat} {S S' : TS} {l l' : List Ent} (h : joinM f m S l i = some (S', l')) (hi : i < l.length) : l'.length ≤ l.length ∧ (∀ q ∈ l', q ∈ l) ∧ i < l'.length := by
  unfold joinM at h
  split at h
  · rename_i x y hx hy
    have hy2 : i + 1 < l.length := by
      rcases Nat.lt_or_ge (i + 1) l.length with h | h
      · exact h
      · rw [List.getElem?_eq_none h] at hy; cases hy
    split at h
    · cases h
    simp only [Option.bind_eq_some_iff] at h
    obtain ⟨a, ha, b, hb, h⟩ := h
    split at h
    · cases h
    split at h
    · simp only [Option.some.injEq, Prod.mk.injEq] at h
      obtain ⟨rfl, rfl⟩ := h
      exact ⟨Nat.le_refl _, fun q hq => hq, hi⟩
    · simp only [Option.bind_eq_some_iff, Option.map_eq_some_iff, Prod.mk.injEq] at h
      obtain ⟨S1, h1, S2, h2, rfl, rfl⟩ := h
      refine ⟨by simp; omega, fun q hq => ?_, by simp; omega⟩
      rcases List.mem_append.1 hq with hq | hq
      · exact List.mem_of_mem_take hq
      · exact List.mem_of_mem_drop hq
  · simp only [Option.some.injEq, Prod.mk.injEq] at h
    obtain ⟨rfl, rfl⟩ := h
    exact ⟨Nat.le_refl _, fun q hq => hq, hi⟩
set_option maxHeartbeats 2000000 in
set_option maxRecDepth 100000 in
theorem ttake_leaf_no (h : TIn w0 w s dk F n V D N t root S) (key : ByteArray) (at_ : Nat) (l : List Ent) (hld : loadM S at_ = some (1, l)) (hh : lHas l key = false) (deep : Int) (hN : N < 1000000000000) :
    Calls Tryz.prog 43 #[.pointer (some ⟨t, 0, none⟩), .int .i64 at_, .int .i64 deep, .string key] w fun e w' => ∃ F' V', e = .returned (.tuple #[.int .i64 l.length, .bool false]) ∧ TRun w0 w w' s dk F F' n V' D (N + 8) t root S := by
  obtain ⟨hfine, hok⟩ := loadM_ok h.shows hld
  have hL := load_run h.run at_ 1 l hld (by omega)
  have hlen := hfine.len
  have hasc := hfine.asc
  have hlt : lTake l key = l := by unfold lTake; rw [hh]; rfl
  have HTK : Hid (∀ w1 F1 v, TRun w0 w w1 s dk F F1 n V D (N + 4) t root S → Row w1 F1 w.heap.size v l → Calls Tryz.prog 78 #[v, .string key] w1 fun e w' => ∃ ao c, e = .returned (.tuple #[.slice ao l.length c, .bool false]) ∧ TRun w0 w w' s dk F F1 n V D (N + 8) t root S) := fun w1 F1 v hr hrow => by
    obtain ⟨ao, c, rfl, er, hat, hnil, -⟩ := hrow.parts
    have := ltake_any w1 ao c l key er hat hnil hasc (by omega)
    rw [hh, hlt] at this
    refine this.mono ?_
    rintro e w' ⟨v2, he, ho, hB⟩
    obtain ⟨a2, c2, rfl, -⟩ := ho.parts
    exact ⟨a2, c2, he, (hr.made hB).mono (by omega)⟩
  clear hfine hok hasc hh hld h hlt
  generalize l.length = m at *
  go_enter Tryz.func43, Tryz.ntmps43
  go_wp2_with fail
  refine hL.mono ?_
  rintro e w1 ⟨F1, v, rfl, hR1, hrow1, -⟩
  have htk := HTK.out w1 F1 v hR1 hrow1
  clear hL HTK hR1 hrow1
  go_wp2_with fail
  refine htk.mono ?_
  rintro e w2 ⟨ao, c, rfl, hR2⟩
  clear htk
  go_wp2
  go_ret2
  exact ⟨F1, V, rfl, hR2⟩
/-- what take does with so many steps down at hand -/
def TakeW (w0 : World) (s dk t root : Nat) (n : Int) (D : Int → ByteArray) (key : ByteArray) (d : Nat) : Prop := ∀ (w : World) (F : Nat → Prop) (V : Int → ByteArray) (N : Int) (S S' : TS) (at_ k : Nat) (ok : Bool), TIn w0 w s dk F n V D N t root S →
  takeM (jFirst n).toNat (spMany n) key d S at_ = some (S', k, ok) → d ≤ 66 → N + 100 * (d : Int) < 1000000000000 →
  Calls Tryz.prog 43 #[.pointer (some ⟨t, 0, none⟩), .int .i64 at_, .int .i64 (66 - (d : Int)), .string key] w fun e w' => ∃ F' V', e = .returned (.tuple #[.int .i64 k, .bool ok]) ∧ TRun w0 w w' s dk F F' n V' D (N + 100 * (d : Nat)) t root S'
set_option maxHeartbeats 4000000 in
set_option maxRecDepth 100000 in
theorem ttake_branch (key : ByteArray) {D : Int → ByteArray} (d : Nat) (IHP : TakeW w0 s dk t root n D key d) (w : World) (F : Nat → Prop) (V : Int → ByteArray) (N : Int) (S S' : TS) (at_ k : Nat) (ok : Bool) (l : List Ent) (h : TIn w0 w s dk F n V D N t root S)
    (hld : loadM S at_ = some (2, l)) (hp : (match l[cIx l key]? with
      | none => none
      | some e => if e.2.size < 2 then none else (takeM (jFirst n).toNat (spMany n) key d S (pgN e.2)).bind fun r =>
        if r.2.2 = false then some (r.1, l.length, false)
        else (if r.2.1 = 0 then (relM (jFirst n).toNat (spMany n) r.1 (pgN e.2)).map fun S1 => (S1, l.take (cIx l key) ++ l.drop (cIx l key + 1))
              else (joinM (jFirst n).toNat (spMany n) r.1 l (cIx l key)).bind fun j1 => if cIx l key = 0 then some j1 else joinM (jFirst n).toNat (spMany n) j1.1 j1.2 (cIx l key - 1)).bind fun j =>
          if j.2 = [] then (storeM (jFirst n).toNat (spMany n) j.1 at_ 1 []).map fun S2 => (S2, 0, true)
          else (storeM (jFirst n).toNat (spMany n) j.1 at_ 2 j.2).map fun S2 => (S2, j.2.length, true)) = some (S', k, ok)) (hd : d + 1 ≤ 66) (hN : N + 100 * ((d + 1 : Nat) : Int) < 1000000000000) :
    Calls Tryz.prog 43 #[.pointer (some ⟨t, 0, none⟩), .int .i64 at_, .int .i64 (66 - ((d + 1 : Nat) : Int)), .string key] w fun e w' => ∃ F' V', e = .returned (.tuple #[.int .i64 k, .bool ok]) ∧ TRun w0 w w' s dk F F' n V' D (N + 100 * (d + 1 : Nat)) t root S' := by
  obtain ⟨hfine, hok⟩ := loadM_ok h.shows hld
  have hL := load_run h.run at_ 2 l hld (by push_cast at hN; omega)
  have hlen := hfine.len
  have hasc := hfine.asc
  have hall : ∀ q ∈ l, q.2.size ≤ 1000 := fun q hq => by have := (hfine.all q hq).2; omega
  push_cast at hN
  by_cases hix : cIx l key < l.length
  case neg =>
    rw [List.getElem?_eq_none (by omega)] at hp
    cases hp
  rw [List.getElem?_eq_getElem hix] at hp
  simp only at hp
  obtain ⟨q, hq⟩ : ∃ q, l[cIx l key] = q := ⟨_, rfl⟩
  rw [hq] at hp
  split at hp
  · cases hp
  rename_i hsz2
  simp only [Option.bind_eq_some_iff] at hp
  obtain ⟨⟨S1, k1, ok1⟩, hrec, hp⟩ := hp
  simp only at hp
  have hqb := hfine.all q (by rw [← hq]; exact List.getElem_mem hix)
  have IH := fun (w3 : World) (F3 : Nat → Prop) (h3 : TIn w0 w3 s dk F3 n V D (N + 4) t root S) => IHP w3 F3 V (N + 4) S S1 (pgN q.2) k1 ok1 h3 hrec (by omega) (by omega)
  have HIH := Lib.hid IH
  have hdeep : d ≠ 0 := fun e => by subst e; simp [takeM] at hrec
  have HCH : Hid (∀ (W : World) G v, Row W G w.heap.size v l → ∃ aL cL, v = .slice aL l.length cL ∧ Calls Tryz.prog 42 #[.slice aL l.length cL, .string key] W fun e w' => e = .returned (.int .i64 (cIx l key : Nat)) ∧ Below W.heap.size W w') := fun W G v hv => by
    obtain ⟨aL, cL, rfl, er, -⟩ := hv.parts
    exact ⟨aL, cL, rfl, child_any W aL cL l key er hasc (by omega)⟩
  have HAT : Hid (∀ (W : World) G B v, Row W G B v l → ∃ g c, v = .slice (some ⟨g, 0, none⟩) l.length c ∧ W.cell? ⟨g, cIx l key * 2, none⟩ = some (.string q.1) ∧ W.cell? ⟨g, cIx l key * 2 + 1, none⟩ = some (.string q.2)) := fun W G B v hv => by
    obtain ⟨aL, cL, rfl, er, -⟩ := hv.parts
    obtain ⟨g, off, rfl, c0, c1⟩ := er.at hix
    obtain ⟨g', cur, e, -⟩ := hv.own.block
    simp at e
    obtain ⟨rfl, rfl⟩ := e
    rw [hq, Nat.zero_add] at c0 c1
    exact ⟨g, cL, rfl, c0, c1⟩
  have HPG : Hid (∀ W, Calls Tryz.prog 41 #[.agg #[.string q.1, .string q.2]] W fun e w' => e = .returned (.int .i64 (pgN q.2 : Nat)) ∧ Below W.heap.size W w') := fun W => page_of q.1 q.2 W (by omega) (by omega)
  have HDN : Hid (∀ W, Calls Tryz.prog 38 #[.int .i64 (66 - ((d : Int) + 1))] W fun e w' => e = .returned (.int .i64 (66 - (d : Int))) ∧ W = w') := fun W => by
    have := down_any (66 - ((d : Int) + 1)) W (by omega) (by omega)
    rw [show 66 - ((d : Int) + 1) + 1 = 66 - (d : Int) by omega] at this
    exact this
  have HM : Hid (∀ W, Calls Tryz.prog 44 #[.int .i64 0] W fun e w' => e = .returned (.tuple #[]) ∧ W = w') := fun W => must_ok W
  have HCD : Hid (∀ (W : World) G v, Row W G w.heap.size v l → ∃ aL cL, v = .slice aL l.length cL ∧ Calls Tryz.prog 80 #[.slice aL l.length cL] W fun e w' => ∃ v2, e = .returned v2 ∧ Calls Tryz.prog 79 #[v2, .int .i64 (cIx l key : Nat), .int .i64 ((cIx l key : Int) + 1)] w' fun e w'' => ∃ v3, e = .returned v3 ∧ Below W.heap.size W w'' ∧ EOwn w'' W.heap.size v3 (l.take (cIx l key) ++ l.drop (cIx l key + 1))) := fun W G v hrow => by
    obtain ⟨aE, cE, rfl, er, hat, hnil, -⟩ := hrow.parts
    refine ⟨aE, cE, rfl, (clone_any W aE cE l er hat hnil (by omega)).mono ?_⟩
    rintro e w' ⟨v2, he, ho, hB2⟩
    refine ⟨v2, he, (delete_any w' W.heap.size v2 l ho hB2.size (cIx l key) hix (by omega)).mono ?_⟩
    rintro e w'' ⟨v3, he3, ho3, hB3⟩
    exact ⟨v3, he3, hB2.trans hB3, ho3⟩
  have hixl : (cIx l key : Int) < (l.length : Int) := by omega
  have hlen2 : (l.length : Int) ≤ 127 := by omega
  have hix0 : (0 : Int) ≤ (cIx l key : Int) := by omega
  by_cases hok1 : ok1 = false
  · -- it is not there
    subst hok1
    rw [if_pos rfl] at hp
    simp only [Option.some.injEq, Prod.mk.injEq] at hp
    obtain ⟨rfl, rfl, rfl⟩ := hp
    clear hfine hld hq hqb hrec IH hsz2 hall
    generalize cIx l key = ix at *
    generalize pgN q.2 = pq at *
    go_enter Tryz.func43, Tryz.ntmps43
    go_wp2_with fail
    refine hL.mono ?_
    rintro e w1 ⟨F1, v, rfl, hR1, hrow1, -⟩
    obtain ⟨aL, cLL, rfl, hch⟩ := HCH.out w1 F1 v hrow1
    clear hL HCH h
    go_wp2_with fail
    refine hch.mono ?_
    rintro e w2 ⟨rfl, hB2⟩
    have hR2 := hR1.made hB2
    have row2 := hrow1.made hB2
    obtain ⟨g, cL2, eL, c0, c1⟩ := HAT.out w2 F1 _ _ row2
    simp at eL
    obtain ⟨rfl, rfl⟩ := eL
    have hpg := HPG.out w2
    clear hch hR1 hrow1
    go_wp2_with fail
    refine hpg.mono ?_
    rintro e w3 ⟨rfl, hB3⟩
    have hdn := HDN.out w3
    have hR3 := hR2.made hB3
    have row3 := row2.made hB3
    have hih := HIH.out w3 F1 hR3.tin
    clear hpg hR2 row2 c0 c1 HDN HIH hB2
    go_wp2_with fail
    refine hdn.mono ?_
    rintro e w3' ⟨rfl, rfl⟩
    clear hdn
    go_wp2_with fail
    refine hih.mono ?_
    rintro e w4 ⟨F4, V4, rfl, hR4⟩
    have rowl4 := hR4.tst.keeps _ _ _ row3
    have hRj := hR3.join hR4
    clear hih hR3 row3 hR4
    go_wp2
    go_ret2
    exact ⟨F4, V4, rfl, hRj.mono (by push_cast; omega)⟩
  have hok1' : ok1 = true := by simpa using hok1
  subst hok1'
  clear hok1
  rw [if_neg (by simp)] at hp
  simp only [Option.bind_eq_some_iff] at hp
  obtain ⟨⟨Sj, lj⟩, hj, hp⟩ := hp
  simp only at hp
  by_cases hk1 : k1 = 0
  · -- the page below is gone
    subst hk1
    rw [if_pos rfl] at hj
    simp only [Option.map_eq_some_iff, Prod.mk.injEq] at hj
    obtain ⟨S2, hrel, rfl, hlj⟩ := hj
    rw [hlj] at HCD
    clear hlj
    by_cases hlj0 : lj = []
    · subst hlj0
      rw [if_pos rfl] at hp
      simp only [Option.map_eq_some_iff, Prod.mk.injEq] at hp
      obtain ⟨S3, hst, rfl, rfl, rfl⟩ := hp
      clear hfine hld hq hqb hrec IH hsz2 hall
      generalize cIx l key = ix at *
      generalize pgN q.2 = pq at *
      go_enter Tryz.func43, Tryz.ntmps43
      go_wp2_with fail
      refine hL.mono ?_
      rintro e w1 ⟨F1, v, rfl, hR1, hrow1, -⟩
      obtain ⟨aL, cLL, rfl, hch⟩ := HCH.out w1 F1 v hrow1
      clear hL HCH h
      go_wp2_with fail
      refine hch.mono ?_
      rintro e w2 ⟨rfl, hB2⟩
      have hR2 := hR1.made hB2
      have row2 := hrow1.made hB2
      obtain ⟨g, cL2, eL, c0, c1⟩ := HAT.out w2 F1 _ _ row2
      simp at eL
      obtain ⟨rfl, rfl⟩ := eL
      have hpg := HPG.out w2
      clear hch hR1 hrow1
      go_wp2_with fail
      refine hpg.mono ?_
      rintro e w3 ⟨rfl, hB3⟩
      have hdn := HDN.out w3
      have hR3 := hR2.made hB3
      have row3 := row2.made hB3
      have hih := HIH.out w3 F1 hR3.tin
      clear hpg hR2 row2 c0 c1 HDN HIH hB2
      go_wp2_with fail
      refine hdn.mono ?_
      rintro e w3' ⟨rfl, rfl⟩
      clear hdn
      go_wp2_with fail
      refine hih.mono ?_
      rintro e w4 ⟨F4, V4, rfl, hR4⟩
      have rowl4 := hR4.tst.keeps _ _ _ row3
      have hRj := hR3.join hR4
      clear hih hR3 row3 hR4
      have HS4 : Hid (∀ W, Below w4.heap.size w4 W → W.cell? ⟨t, 0, none⟩ = some (.pointer (some ⟨s, 0, none⟩)) ∧ W.cell? ⟨g, ix * 2, none⟩ = some (.string q.1) ∧ W.cell? ⟨g, ix * 2 + 1, none⟩ = some (.string q.2) ∧ Calls Tryz.prog 45 #[.pointer (some ⟨s, 0, none⟩), .int .i64 pq] W fun e w' => e = .returned (.int .i64 0) ∧ ∃ F1 V1, TRun w0 w w' s dk F F1 n V1 D (N + 4 + 100 * (d : Int) + 4) t root S2 ∧ Row w' F1 w.heap.size (.slice (some ⟨g, 0, none⟩) l.length cLL) l) := fun W hB => by
        obtain ⟨g7, c7, e7, c2, c3⟩ := HAT.out W F4 _ _ (rowl4.made hB)
        simp at e7
        obtain ⟨rfl, rfl⟩ := e7
        have hR := hRj.made hB
        refine ⟨hR.tin.cell.1, c2, c3, (rel_run hR pq hrel (by omega)).mono ?_⟩
        rintro e w' ⟨he, F1, V1, h1, h2⟩
        exact ⟨he, F1, V1, h1, h2 _ _ _ (rowl4.made hB)⟩
      obtain ⟨t4, c2, c3, -⟩ := HS4.out w4.drew ((Below.refl _ _).drew)
      have hpy := HPG.out w4.drew
      clear hRj rowl4 HPG hrel
      go_upto_region 12 with fail
      go_region_held3 (fun w' => w'.cell? ⟨t, 0, none⟩ = some (.pointer (some ⟨s, 0, none⟩)) ∧ w'.cell? ⟨g, ix * 2, none⟩ = some (.string q.1) ∧ w'.cell? ⟨g, ix * 2 + 1, none⟩ = some (.string q.2)) (go_keep) (first
        | (go_at_call 44; refine hm.mono ?_; rintro e w12 ⟨rfl, rfl⟩)
        | (go_at_call 45; refine hre.mono ?_; rintro e w11 ⟨rfl, F11, V11, hR11, row11⟩
           have hm := HM.out w11
           have HR11 := Lib.hid hR11
           have HROW11 := Lib.hid row11
           obtain ⟨g7, c7, e7, d2, d3⟩ := HAT.out w11 F11 _ _ row11
           simp at e7
           obtain ⟨rfl, rfl⟩ := e7
           have d1 := hR11.tin.cell.1)
        | (go_at_call 41; refine hpy.mono ?_; rintro e w10 ⟨rfl, hB10⟩
           have hB910 : Below w4.heap.size w4 w10 := ((Below.refl _ w4).drew).trans hB10
           obtain ⟨t10, b2, b3, hre⟩ := HS4.out w10 hB910))
      all_goals
        have hrow11 := HROW11.out
        obtain ⟨aE, cE, e0, hcl⟩ := HCD.out w11 F11 _ hrow11
        simp at e0
        obtain ⟨rfl, rfl⟩ := e0
        clear HS4 HAT HCD hpy hrow11
        go_wp2_with fail
        refine hcl.mono ?_
        rintro e w13 ⟨v2, rfl, hdl⟩
        clear hcl
        go_wp2_with fail
        refine hdl.mono ?_
        rintro e w14 ⟨v3, rfl, hB14, ho14⟩
        have hR14 := HR11.out.made hB14
        have row14 := Row.new HR11.out ho14
        clear hdl HR11 HROW11 hB14 ho14
        have hst9 := fun W hW => store_run (hR14.made (W1 := W) hW) at_ 1 [] none 0 (ERow.nil _ _) hst (by omega)
        have HST9 := Lib.hid hst9
        obtain ⟨aY, cY, rfl, -⟩ := row14.parts
        clear row14 hst hst9
        go_wp2_with fail
        refine (HST9.out _ (Below.refl _ _)).mono ?_
        rintro e w9 ⟨F9, V9, rfl, hR9, -⟩
        go_wp2
        go_ret2
        exact ⟨F9, V9, rfl, hR9.mono (by push_cast; omega)⟩
    · rw [if_neg hlj0] at hp
      simp only [Option.map_eq_some_iff, Prod.mk.injEq] at hp
      obtain ⟨S3, hst, rfl, rfl, rfl⟩ := hp
      have hljl : 0 < lj.length := List.length_pos_iff.2 hlj0
      clear hfine hld hq hqb hrec IH hsz2 hall
      generalize cIx l key = ix at *
      generalize pgN q.2 = pq at *
      go_enter Tryz.func43, Tryz.ntmps43
      go_wp2_with fail
      refine hL.mono ?_
      rintro e w1 ⟨F1, v, rfl, hR1, hrow1, -⟩
      obtain ⟨aL, cLL, rfl, hch⟩ := HCH.out w1 F1 v hrow1
      clear hL HCH h
      go_wp2_with fail
      refine hch.mono ?_
      rintro e w2 ⟨rfl, hB2⟩
      have hR2 := hR1.made hB2
      have row2 := hrow1.made hB2
      obtain ⟨g, cL2, eL, c0, c1⟩ := HAT.out w2 F1 _ _ row2
      simp at eL
      obtain ⟨rfl, rfl⟩ := eL
      have hpg := HPG.out w2
      clear hch hR1 hrow1
      go_wp2_with fail
      refine hpg.mono ?_
      rintro e w3 ⟨rfl, hB3⟩
      have hdn := HDN.out w3
      have hR3 := hR2.made hB3
      have row3 := row2.made hB3
      have hih := HIH.out w3 F1 hR3.tin
      clear hpg hR2 row2 c0 c1 HDN HIH hB2
      go_wp2_with fail
      refine hdn.mono ?_
      rintro e w3' ⟨rfl, rfl⟩
      clear hdn
      go_wp2_with fail
      refine hih.mono ?_
      rintro e w4 ⟨F4, V4, rfl, hR4⟩
      have rowl4 := hR4.tst.keeps _ _ _ row3
      have hRj := hR3.join hR4
      clear hih hR3 row3 hR4
      have HS4 : Hid (∀ W, Below w4.heap.size w4 W → W.cell? ⟨t, 0, none⟩ = some (.pointer (some ⟨s, 0, none⟩)) ∧ W.cell? ⟨g, ix * 2, none⟩ = some (.string q.1) ∧ W.cell? ⟨g, ix * 2 + 1, none⟩ = some (.string q.2) ∧ Calls Tryz.prog 45 #[.pointer (some ⟨s, 0, none⟩), .int .i64 pq] W fun e w' => e = .returned (.int .i64 0) ∧ ∃ F1 V1, TRun w0 w w' s dk F F1 n V1 D (N + 4 + 100 * (d : Int) + 4) t root S2 ∧ Row w' F1 w.heap.size (.slice (some ⟨g, 0, none⟩) l.length cLL) l) := fun W hB => by
        obtain ⟨g7, c7, e7, c2, c3⟩ := HAT.out W F4 _ _ (rowl4.made hB)
        simp at e7
        obtain ⟨rfl, rfl⟩ := e7
        have hR := hRj.made hB
        refine ⟨hR.tin.cell.1, c2, c3, (rel_run hR pq hrel (by omega)).mono ?_⟩
        rintro e w' ⟨he, F1, V1, h1, h2⟩
        exact ⟨he, F1, V1, h1, h2 _ _ _ (rowl4.made hB)⟩
      obtain ⟨t4, c2, c3, -⟩ := HS4.out w4.drew ((Below.refl _ _).drew)
      have hpy := HPG.out w4.drew
      clear hRj rowl4 HPG hrel
      go_upto_region 12 with fail
      go_region_held3 (fun w' => w'.cell? ⟨t, 0, none⟩ = some (.pointer (some ⟨s, 0, none⟩)) ∧ w'.cell? ⟨g, ix * 2, none⟩ = some (.string q.1) ∧ w'.cell? ⟨g, ix * 2 + 1, none⟩ = some (.string q.2)) (go_keep) (first
        | (go_at_call 44; refine hm.mono ?_; rintro e w12 ⟨rfl, rfl⟩)
        | (go_at_call 45; refine hre.mono ?_; rintro e w11 ⟨rfl, F11, V11, hR11, row11⟩
           have hm := HM.out w11
           have HR11 := Lib.hid hR11
           have HROW11 := Lib.hid row11
           obtain ⟨g7, c7, e7, d2, d3⟩ := HAT.out w11 F11 _ _ row11
           simp at e7
           obtain ⟨rfl, rfl⟩ := e7
           have d1 := hR11.tin.cell.1)
        | (go_at_call 41; refine hpy.mono ?_; rintro e w10 ⟨rfl, hB10⟩
           have hB910 : Below w4.heap.size w4 w10 := ((Below.refl _ w4).drew).trans hB10
           obtain ⟨t10, b2, b3, hre⟩ := HS4.out w10 hB910))
      all_goals
        have hrow11 := HROW11.out
        obtain ⟨aE, cE, e0, hcl⟩ := HCD.out w11 F11 _ hrow11
        simp at e0
        obtain ⟨rfl, rfl⟩ := e0
        clear HS4 HAT HCD hpy hrow11
        go_wp2_with fail
        refine hcl.mono ?_
        rintro e w13 ⟨v2, rfl, hdl⟩
        clear hcl
        go_wp2_with fail
        refine hdl.mono ?_
        rintro e w14 ⟨v3, rfl, hB14, ho14⟩
        have hR14 := HR11.out.made hB14
        have row14 := Row.new HR11.out ho14
        clear hdl HR11 HROW11 hB14 ho14
        obtain ⟨aY, cY, rfl, er, -⟩ := row14.parts
        have hst9 := store_run hR14 at_ 2 lj aY cY er hst (by omega)
        have HR14 := Lib.hid hR14
        have zl : ¬ ((lj.length : Int) = 0) := by omega
        clear row14 hst er hR14
        go_wp2_with fail
        refine hst9.mono ?_
        rintro e w9 ⟨F9, V9, rfl, hR9, -⟩
        clear hst9
        go_wp2
        go_ret2
        exact ⟨F9, V9, rfl, hR9.mono (by push_cast; omega)⟩
  · -- joined with its neighbours, if they fit
    rw [if_neg hk1] at hj
    simp only [Option.bind_eq_some_iff] at hj
    obtain ⟨⟨Sk, lk⟩, hj1, hj2⟩ := hj
    simp only at hj2
    have hlk : lk.length ≤ l.length ∧ (∀ q ∈ lk, q ∈ l) ∧ cIx l key < lk.length := joinM_len hj1 hix
    have HJ1 : Hid (∀ (W : World) (G : Nat → Prop) (U : Int → ByteArray) aL cL, TRun w0 w W s dk F G n U D (N + 4 + 100 * (d : Int)) t root S1 → Row W G w.heap.size (.slice aL l.length cL) l → Calls Tryz.prog 81 #[.pointer (some ⟨t, 0, none⟩), .slice aL l.length cL, .int .i64 (cIx l key : Nat)] W fun e w' => ∃ F1 V1 aX cX, e = .returned (.slice aX lk.length cX) ∧ TRun w0 w w' s dk F F1 n V1 D (N + 4 + 100 * (d : Int) + 16) t root Sk ∧ Row w' F1 w.heap.size (.slice aX lk.length cX) lk) := fun W G U aL cL hr hrow => tjoin_any hr aL cL l hrow (cIx l key) lk hj1 (by omega) hix hall (by omega)
    have HJ2 : Hid (∀ (W : World) (G : Nat → Prop) (U : Int → ByteArray) aL cL, TRun w0 w W s dk F G n U D (N + 4 + 100 * (d : Int) + 16) t root Sk → Row W G w.heap.size (.slice aL lk.length cL) lk → Calls Tryz.prog 81 #[.pointer (some ⟨t, 0, none⟩), .slice aL lk.length cL, .int .i64 ((cIx l key : Int) - 1)] W fun e w' => ∃ F1 V1 aX cX, e = .returned (.slice aX lj.length cX) ∧ TRun w0 w w' s dk F F1 n V1 D (N + 4 + 100 * (d : Int) + 32) t root Sj ∧ Row w' F1 w.heap.size (.slice aX lj.length cX) lj) := fun W G U aL cL hr hrow => by
      by_cases h0 : cIx l key = 0
      · rw [if_pos h0] at hj2
        simp only [Option.some.injEq, Prod.mk.injEq] at hj2
        obtain ⟨rfl, rfl⟩ := hj2
        rw [h0]
        refine (tjoin_neg aL lk.length cL W).mono ?_
        rintro e w' ⟨rfl, rfl⟩
        exact ⟨G, U, aL, cL, rfl, hr.mono (by omega), hrow⟩
      · rw [if_neg h0] at hj2
        have := tjoin_any hr aL cL lk hrow (cIx l key - 1) lj hj2 (by omega) (by omega) (fun q hq => hall q (hlk.2.1 q hq)) (by omega)
        rw [show ((cIx l key - 1 : Nat) : Int) = (cIx l key : Int) - 1 by omega] at this
        refine this.mono ?_
        rintro e w' ⟨F1, V1, aX, cX, he, hr2, hrow2⟩
        exact ⟨F1, V1, aX, cX, he, hr2.mono (by omega), hrow2⟩
    have hk1' : ¬ ((k1 : Int) = 0) := by omega
    clear hj1 hj2 hlk
    by_cases hlj0 : lj = []
    · subst hlj0
      rw [if_pos rfl] at hp
      simp only [Option.map_eq_some_iff, Prod.mk.injEq] at hp
      obtain ⟨S3, hst, rfl, rfl, rfl⟩ := hp
      clear hfine hld hq hqb hrec IH hsz2 hall
      generalize cIx l key = ix at *
      generalize pgN q.2 = pq at *
      go_enter Tryz.func43, Tryz.ntmps43
      go_wp2_with fail
      refine hL.mono ?_
      rintro e w1 ⟨F1, v, rfl, hR1, hrow1, -⟩
      obtain ⟨aL, cLL, rfl, hch⟩ := HCH.out w1 F1 v hrow1
      clear hL HCH h
      go_wp2_with fail
      refine hch.mono ?_
      rintro e w2 ⟨rfl, hB2⟩
      have hR2 := hR1.made hB2
      have row2 := hrow1.made hB2
      obtain ⟨g, cL2, eL, c0, c1⟩ := HAT.out w2 F1 _ _ row2
      simp at eL
      obtain ⟨rfl, rfl⟩ := eL
      have hpg := HPG.out w2
      clear hch hR1 hrow1
      go_wp2_with fail
      refine hpg.mono ?_
      rintro e w3 ⟨rfl, hB3⟩
      have hdn := HDN.out w3
      have hR3 := hR2.made hB3
      have row3 := row2.made hB3
      have hih := HIH.out w3 F1 hR3.tin
      clear hpg hR2 row2 c0 c1 HDN HIH hB2
      go_wp2_with fail
      refine hdn.mono ?_
      rintro e w3' ⟨rfl, rfl⟩
      clear hdn
      go_wp2_with fail
      refine hih.mono ?_
      rintro e w4 ⟨F4, V4, rfl, hR4⟩
      have rowl4 := hR4.tst.keeps _ _ _ row3
      have hRj := hR3.join hR4
      clear hih hR3 row3 hR4
      have hj1 := HJ1.out w4 F4 V4 _ _ hRj rowl4
      clear hRj rowl4 HJ1 HAT HPG
      go_wp2_with fail
      refine hj1.mono ?_
      rintro e w5 ⟨F5, V5, aX, cX, rfl, hR5, row5⟩
      have hj2 := HJ2.out w5 F5 V5 _ _ hR5 row5
      clear hj1 hR5 row5 HJ2
      go_wp2_with fail
      refine hj2.mono ?_
      rintro e w6 ⟨F11, V11, aY, cY, rfl, hR14, row14⟩
      clear hj2
      have hst9 := fun W hW => store_run (hR14.made (W1 := W) hW) at_ 1 [] none 0 (ERow.nil _ _) hst (by omega)
      have HST9 := Lib.hid hst9
      clear row14 hst hst9
      go_wp2_with fail
      refine (HST9.out _ (Below.refl _ _)).mono ?_
      rintro e w9 ⟨F9, V9, rfl, hR9, -⟩
      go_wp2
      go_ret2
      exact ⟨F9, V9, rfl, hR9.mono (by push_cast; omega)⟩
    · rw [if_neg hlj0] at hp
      simp only [Option.map_eq_some_iff, Prod.mk.injEq] at hp
      obtain ⟨S3, hst, rfl, rfl, rfl⟩ := hp
      have hljl : 0 < lj.length := List.length_pos_iff.2 hlj0
      clear hfine hld hq hqb hrec IH hsz2 hall
      generalize cIx l key = ix at *
      generalize pgN q.2 = pq at *
      go_enter Tryz.func43, Tryz.ntmps43
      go_wp2_with fail
      refine hL.mono ?_
      rintro e w1 ⟨F1, v, rfl, hR1, hrow1, -⟩
      obtain ⟨aL, cLL, rfl, hch⟩ := HCH.out w1 F1 v hrow1
      clear hL HCH h
      go_wp2_with fail
      refine hch.mono ?_
      rintro e w2 ⟨rfl, hB2⟩
      have hR2 := hR1.made hB2
      have row2 := hrow1.made hB2
      obtain ⟨g, cL2, eL, c0, c1⟩ := HAT.out w2 F1 _ _ row2
      simp at eL
      obtain ⟨rfl, rfl⟩ := eL
      have hpg := HPG.out w2
      clear hch hR1 hrow1
      go_wp2_with fail
      refine hpg.mono ?_
      rintro e w3 ⟨rfl, hB3⟩
      have hdn := HDN.out w3
      have hR3 := hR2.made hB3
      have row3 := row2.made hB3
      have hih := HIH.out w3 F1 hR3.tin
      clear hpg hR2 row2 c0 c1 HDN HIH hB2
      go_wp2_with fail
      refine hdn.mono ?_
      rintro e w3' ⟨rfl, rfl⟩
      clear hdn
      go_wp2_with fail
      refine hih.mono ?_
      rintro e w4 ⟨F4, V4, rfl, hR4⟩
      have rowl4 := hR4.tst.keeps _ _ _ row3
      have hRj := hR3.join hR4
      clear hih hR3 row3 hR4
      have hj1 := HJ1.out w4 F4 V4 _ _ hRj rowl4
      clear hRj rowl4 HJ1 HAT HPG
      go_wp2_with fail
      refine hj1.mono ?_
      rintro e w5 ⟨F5, V5, aX, cX, rfl, hR5, row5⟩
      have hj2 := HJ2.out w5 F5 V5 _ _ hR5 row5
      clear hj1 hR5 row5 HJ2
      go_wp2_with fail
      refine hj2.mono ?_
      rintro e w6 ⟨F11, V11, aY, cY, rfl, hR14, row14⟩
      clear hj2
      obtain ⟨_, _, e0, er, -⟩ := row14.parts
      simp at e0
      obtain ⟨rfl, rfl⟩ := e0
      have hst9 := store_run hR14 at_ 2 lj aY cY er hst (by omega)
      have HR14 := Lib.hid hR14
      have zl : ¬ ((lj.length : Int) = 0) := by omega
      clear row14 hst er hR14
      go_wp2_with fail
      refine hst9.mono ?_
      rintro e w9 ⟨F9, V9, rfl, hR9, -⟩
      clear hst9
      go_wp2
      go_ret2
      exact ⟨F9, V9, rfl, hR9.mono (by push_cast; omega)⟩
theorem ttake_any (key : ByteArray) (D : Int → ByteArray) : ∀ d, TakeW w0 s dk t root n D key d
  | 0 => fun w F V N S S' at_ k ok h hp hd hN => by simp [takeM] at hp
  | d + 1 => fun w F V N S S' at_ k ok h hp hd hN => by
    simp only [takeM, Option.bind_eq_some_iff] at hp
    obtain ⟨⟨kind, l⟩, hld, hp⟩ := hp
    simp only at hp
    have hfine := (loadM_ok h.shows hld).1
    by_cases hk1 : kind = 1
    · subst hk1
      rw [if_pos rfl] at hp
      split at hp
      · rename_i hh
        simp only [Option.map_eq_some_iff, Prod.mk.injEq] at hp
        obtain ⟨S1, hst, rfl, rfl, rfl⟩ := hp
        refine (ttake_leaf h key at_ l hld hh hst _ (by push_cast at hN; omega)).mono ?_
        rintro e w' ⟨F1, V1, he, hr⟩
        exact ⟨F1, V1, he, hr.mono (by push_cast; omega)⟩
      · rename_i hh
        simp only [Option.some.injEq, Prod.mk.injEq] at hp
        obtain ⟨rfl, rfl, rfl⟩ := hp
        refine (ttake_leaf_no h key at_ l hld (by simpa using hh) _ (by push_cast at hN; omega)).mono ?_
        rintro e w' ⟨F1, V1, he, hr⟩
        exact ⟨F1, V1, he, hr.mono (by push_cast; omega)⟩
    · rw [if_neg hk1] at hp
      have hk2 : kind = 2 := by rcases hfine.kind with h | h <;> omega
      subst hk2
      exact ttake_branch key d (ttake_any key D d) w F V N S S' at_ k ok l h hld hp hd hN
end
end
end Go.Proofs.YtmgcaohpbaiiaaaGreatDoor
