/- Tree.put. -/
import Derived.Test.YtmgcaohpbaiiaaaGreatDoorU4
import Derived.Deep.RegionHeld3
set_option linter.unusedSimpArgs false
set_option linter.unusedVariables false
namespace Go.Proofs.YtmgcaohpbaiiaaaGreatDoor
open Go.RowKit Go.Maps Go.Shelf

theorem EOwn.of_new (w : World) (cs : Array Value) (l : List Ent) (h : cs.toList = entCells l) (hm : l.length ≤ maxLen) : EOwn (w.alloc (.cells cs 59)) w.heap.size (.slice (some ⟨w.heap.size, 0, none⟩) l.length l.length) l :=
  EOwn.of_block (heap_alloc_new' w _) (Nat.le_refl _) (Nat.le_refl _) hm (by rw [← Array.length_toList, h, entCells_len]) (by rw [h]; exact List.take_of_length_le (by rw [entCells_len]; omega))
/-- the first key of a row is turned -/
theorem EOwn.setKey0 {w : World} {B g n c : Nat} {q : Ent} {r : List Ent} (h : EOwn w B (.slice (some ⟨g, 0, none⟩) n c) (q :: r)) (x : ByteArray) :
    EOwn (w.setCell ⟨g, 0, none⟩ (.string x)) B (.slice (some ⟨g, 0, none⟩) n c) ((x, q.2) :: r) := by
  obtain ⟨g', cur, e, rfl, hbg, hg, hlc, hcm, hcs, hct⟩ := h.block
  simp at e
  subst e
  have hg2 := heap_setCell_same hg 0 (.string x)
  exact EOwn.of_block (B := B) (l := (x, q.2) :: r) hg2 hbg (cap := c) hlc hcm (by simp [hcs]) (by
    have e1 : entCells ((x, q.2) :: r) = (entCells (q :: r)).set 0 (.string x) := by rw [entCells_cons, entCells_cons]; rfl
    rw [e1, ← hct]
    simp only [Array.toList_setIfInBounds, List.length_cons]
    exact List.take_set ..)
theorem lPut_all {l : List Ent} {key value : ByteArray} (h : ∀ q ∈ l, q.1.size ≤ 32 ∧ q.2.size ≤ 64) (hk : key.size ≤ 32) (hv : value.size ≤ 64) : ∀ q ∈ lPut l key value, q.1.size ≤ 32 ∧ q.2.size ≤ 64 := by
  intro q hq
  unfold lPut at hq
  split at hq
  · unfold repL at hq
    simp at hq
    rcases hq with hq | rfl | hq
    · exact h q (List.mem_of_mem_take hq)
    · exact ⟨hk, hv⟩
    · exact h q (List.mem_of_mem_drop hq)
  · unfold insL at hq
    simp at hq
    rcases hq with hq | rfl | hq
    · exact h q (List.mem_of_mem_take hq)
    · exact ⟨hk, hv⟩
    · exact h q (List.mem_of_mem_drop hq)
section
variable {w0 w W W1 : World} {s dk t root B : Nat} {F F' F1 : Nat → Prop} {n N M : Int} {V D V1 : Int → ByteArray} {S S1 : TS} {v : Value} {l : List Ent}
theorem Row.at0 (h : Row W F B v l) (hl : 0 < l.length) : ∃ g c, v = .slice (some ⟨g, 0, none⟩) l.length c ∧ W.cell? ⟨g, 0, none⟩ = some (.string (key0 l)) := by
  obtain ⟨q, r, rfl⟩ := List.exists_cons_of_ne_nil (List.ne_nil_of_length_pos hl)
  obtain ⟨ao, c, rfl, hr, hat, -⟩ := h.parts
  obtain ⟨g, off, rfl, c0, -⟩ := hr.at (i := 0) (by simp)
  obtain ⟨g', cur, e, -⟩ := h.own.block
  simp at e
  obtain ⟨rfl, rfl⟩ := e
  exact ⟨g, c, rfl, by simpa [key0] using c0⟩
theorem TRun.cell (h : TRun w0 w W s dk F F' n V D N t root S) {g : Nat} (h0 : w0.heap.size ≤ w.heap.size) (hg : w.heap.size ≤ g) (hf : ¬ F' g) (hgs : g ≠ s) (hgt : g ≠ t) (i : Nat) (v : Value) : TRun w0 w (W.setCell ⟨g, i, none⟩ v) s dk F F' n V D N t root S := by
  have h1 := h.tst.cell h0 hg hf hgs i v
  exact ⟨⟨h1.sin, h1.lt, ⟨(setCell_other (fun e => hgt e.symm)).trans h.tin.at_.obj, h.tin.at_.out⟩, h.tin.shows⟩, h1⟩
theorem TRun.join {w1 w2 : World} {F2 : Nat → Prop} {V2 : Int → ByteArray} {S2 : TS} (h : TRun w0 w w1 s dk F F1 n V1 D N t root S1) (k : TRun w0 w1 w2 s dk F1 F2 n V2 D M t root S2) : TRun w0 w w2 s dk F F2 n V2 D M t root S2 := ⟨k.tin, h.tst.trans k.tst⟩

set_option maxHeartbeats 4000000 in
set_option maxRecDepth 100000 in
theorem tput_leaf (key value : ByteArray) (hk : key.size ≤ 32) (hv : value.size ≤ 64) {D : Int → ByteArray} (d : Nat) (w : World) (F : Nat → Prop) (V : Int → ByteArray) (N : Int) (S S' : TS) (at_ : Nat) (ps l : List Ent) (h : TIn w0 w s dk F n V D N t root S)
    (hld : loadM S at_ = some (1, l)) (hp : finM (jFirst n).toNat (spMany n) root S at_ 1 (lPut l key value) = some (S', ps)) (hd : d + 1 ≤ 66) (hN : N + 100 * ((d + 1 : Nat) : Int) < 1000000000000) :
    Calls Tryz.prog 51 #[.pointer (some ⟨t, 0, none⟩), .int .i64 at_, .int .i64 (66 - ((d + 1 : Nat) : Int)), .string key, .string value] w fun e w' => ∃ F' V' vb vc, e = .returned (.slice (some ⟨vb, 0, none⟩) ps.length vc) ∧ TRun w0 w w' s dk F F' n V' D (N + 100 * (d + 1 : Nat)) t root S' ∧ Row w' F' w.heap.size (.slice (some ⟨vb, 0, none⟩) ps.length vc) ps := by
  obtain ⟨hfine, hok⟩ := loadM_ok h.shows hld
  have hL := load_run h.run at_ 1 l hld (by push_cast at hN; omega)
  have hlen := hfine.len
  have hasc := hfine.asc
  have hlsz := hfine.size
  push_cast at hN
  obtain ⟨l2, hl2e⟩ : ∃ l2, lPut l key value = l2 := ⟨_, rfl⟩
  have HPT : Hid (∀ w1 F1 v, TRun w0 w w1 s dk F F1 n V D (N + 4) t root S → Row w1 F1 w.heap.size v l → Calls Tryz.prog 85 #[v, .string key, .string value] w1 fun e w' => ∃ v2, e = .returned v2 ∧ TRun w0 w w' s dk F F1 n V D (N + 4) t root S ∧ Row w' F1 w.heap.size v2 l2) := fun w1 F1 v hr hrow => by
    obtain ⟨ao, c, rfl, er, hat, hnil, -⟩ := hrow.parts
    refine (lput_any w1 ao c l key value er hat hnil hasc (by omega)).mono ?_
    rintro e w' ⟨v2, he, ho, hB⟩
    rw [hl2e] at ho
    exact ⟨v2, he, hr.made hB, Row.new hr ho⟩
  have hl2 : 0 < l2.length := by rw [← hl2e]; exact lPut_ne l key value
  have hs2 : lSize l2 ≤ 1000 := by rw [← hl2e]; have := lSum_put l key value; unfold lSize at hlsz ⊢; omega
  rw [hl2e] at hp
  have hfin := hp
  have hall : ∀ q ∈ l2, q.1.size ≤ 32 ∧ q.2.size ≤ 64 := by rw [← hl2e]; exact lPut_all hfine.all hk hv
  clear hp hl2e hfine hlsz hld
  go_enter Tryz.func51, Tryz.ntmps51
  go_wp2_with fail
  refine hL.mono ?_
  rintro e w1 ⟨F1, v, rfl, hR1, hrow1, -⟩
  have hPT := HPT.out w1 F1 v hR1 hrow1
  clear hL HPT hR1 hrow1
  go_wp2_with fail
  refine hPT.mono ?_
  rintro e wX ⟨vX, rfl, hX, rX⟩
  clear hPT
  obtain ⟨aX, cX, rfl, eX, atX, nilX, lenX⟩ := rX.parts
  have HSZ := Lib.hid (lsize_any wX aX cX l2 eX (by omega))
  have HRX := Lib.hid rX
  have HHX := Lib.hid hX
  have hbd := hX.tin.bd
  clear eX atX nilX rX
  by_cases hsz : lSize l2 ≤ 256
  · -- one page
    unfold finM at hfin
    rw [if_pos hsz] at hfin
    simp only [Option.map_eq_some_iff] at hfin
    obtain ⟨S9, hs9, e9⟩ := hfin
    simp only [Prod.mk.injEq] at e9
    obtain ⟨k0, hk0⟩ : ∃ x, key0 l2 = x := ⟨_, rfl⟩
    obtain ⟨nm, hnm⟩ : ∃ x, nmB at_ = x := ⟨_, rfl⟩
    rw [hk0, hnm] at e9
    obtain ⟨rfl, rfl⟩ := e9
    have hat9 := okM_lt hbd.1 hbd.2 (storeM_fine hs9).2
    have HST : Hid (∀ W, Below wX.heap.size wX W → ∃ g c, aX = some ⟨g, 0, none⟩ ∧ cX = c ∧ Calls Tryz.prog 29 #[.pointer (some ⟨t, 0, none⟩), .int .i64 at_, .int .i64 1, .slice aX l2.length cX] W fun e w' => e = .returned (.tuple #[]) ∧ ∃ F1 V1, TRun w0 w w' s dk F F1 n V1 D (N + 100 * (d + 1 : Nat)) t root S9 ∧ (∀ W2, Below w'.heap.size w' W2 → W2.cell? ⟨g, 0, none⟩ = some (.string (key0 l2)))) := fun W hB => by
      obtain ⟨g, c, e, -⟩ := HRX.out.at0 hl2
      simp at e
      obtain ⟨rfl, rfl⟩ := e
      refine ⟨g, _, rfl, rfl, ?_⟩
      obtain ⟨_, _, e2, er, -⟩ := (HRX.out.made hB).parts
      simp at e2
      obtain ⟨rfl, rfl⟩ := e2
      refine (store_run (HHX.out.made hB) at_ 1 l2 _ _ er hs9 (by omega)).mono ?_
      rintro e w' ⟨F1, V1, he, hr, hk⟩
      refine ⟨he, F1, V1, hr.mono (by push_cast; omega), fun W2 hB2 => ?_⟩
      obtain ⟨g2, c2, e3, c0⟩ := ((hk _ _ _ (HRX.out.made hB)).made hB2).at0 hl2
      simp at e3
      obtain ⟨rfl, rfl⟩ := e3
      exact c0
    have HNM : Hid (∀ W, Calls Tryz.prog 88 #[.int .i64 at_] W fun e w' => e = .returned (.string (nmB at_)) ∧ Below W.heap.size W w') := fun W => name_any at_ W (by omega)
    have HFN : Hid (∀ (w8 w9 : World) F1 V1, TRun w0 w w8 s dk F F1 n V1 D (N + 100 * (d + 1 : Nat)) t root S9 → Below w8.heap.size w8 w9 → TRun w0 w (w9.alloc (.cells #[.string (key0 l2), .string (nmB at_)] 59)) s dk F F1 n V1 D (N + 100 * (d + 1 : Nat)) t root S9 ∧ Row (w9.alloc (.cells #[.string (key0 l2), .string (nmB at_)] 59)) F1 w.heap.size (.slice (some ⟨w9.heap.size, 0, none⟩) 1 1) [(key0 l2, nmB at_)]) := fun w8 w9 F1 V1 hr hB => by
      have h9 := hr.made hB
      have hB9 : Below w9.heap.size w9 (w9.alloc (.cells #[.string (key0 l2), .string (nmB at_)] 59)) := (Below.refl _ _).alloc (Nat.le_refl _) _
      exact ⟨h9.made hB9, Row.new h9 (EOwn.of_new w9 _ [(key0 l2, nmB at_)] rfl (by unfold maxLen; simp))⟩
    have hsz' : (lSize l2 : Int) ≤ 256 := by omega
    clear hX HRX HHX hsz hs9 hbd
    obtain ⟨lz, hlz⟩ : ∃ lz : Nat, lSize l2 = lz := ⟨_, rfl⟩
    rw [hlz] at hsz' HSZ
    clear hlz
    rw [hk0] at HST HFN
    rw [hnm] at HFN HNM
    clear hk0 hnm
    obtain ⟨n2, HN2⟩ : ∃ n2, Hid (l2.length = n2) := ⟨_, Lib.hid rfl⟩
    rw [HN2.out] at HSZ HST hl2 ⊢
    clear HN2
    go_wp2_with fail
    refine HSZ.out.mono ?_
    rintro e w7 ⟨rfl, hB7⟩
    obtain ⟨g, c, rfl, rfl, hst⟩ := HST.out w7 hB7
    clear HST HSZ
    go_wp2_with fail
    refine hst.mono ?_
    rintro e w8 ⟨rfl, F9, V9, hR9, hc9⟩
    have HR9 := Lib.hid hR9
    have HC9 : Hid (∀ W2, Below w8.heap.size w8 W2 → W2.cell? ⟨g, 0, none⟩ = some (.string k0)) := hc9
    have c8 : w8.drew.cell? ⟨g, 0, none⟩ = some (.string k0) := hc9 w8.drew ((Below.refl _ _).drew)
    have HN8 := Lib.hid (HNM.out w8.drew)
    clear hst hR9 hc9 HNM
    have z1 : (0 : Int) < (n2 : Int) := by omega
    go_upto_region 10 with fail
    go_region_held3 (fun w' => w'.cell? ⟨g, 0, none⟩ = some (.string k0)) (go_keep) (first
      | (go_at_call 88; refine HN8.out.mono ?_; rintro e w9 ⟨rfl, hB9⟩
         have hB89 : Below w8.heap.size w8 w9 := ((Below.refl _ w8).drew).trans hB9
         have c9 := HC9.out w9 hB89
         have HFF := Lib.hid (HFN.out w8 w9 F9 V9 HR9.out hB89)
         have c9b : ∀ o, (w9.alloc o).cell? ⟨g, 0, none⟩ = some (.string k0) := fun o => HC9.out _ (hB89.alloc (by have := hB89.size; omega) o)))
    all_goals
      go_wp2
      go_ret
      exact ⟨F9, V9, _, _, rfl, HFF.out.1, HFF.out.2⟩
  · -- two pages
    have h2len : 2 ≤ l2.length := by
      rcases Nat.lt_or_ge l2.length 2 with hx | hx
      · exfalso
        obtain ⟨q, rfl⟩ : ∃ q, l2 = [q] := List.length_eq_one_iff.1 (by omega)
        have := hall q (by simp)
        unfold lSize lSum at hsz
        simp at hsz
        omega
      · exact hx
    have hs2' : lSum l2 ≤ 100000 := by unfold lSize at hs2; omega
    have HCU : Hid (∀ W, Below wX.heap.size wX W → Calls Tryz.prog 89 #[.slice aX l2.length cX] W fun e w' => ∃ v1 v2, e = .returned (.tuple #[v1, v2]) ∧ TRun w0 w w' s dk F F1 n V D (N + 4) t root S ∧ Row w' F1 w.heap.size v1 (l2.take (lCut l2)) ∧ Row w' F1 w.heap.size v2 (l2.drop (lCut l2))) := fun W hB => by
      obtain ⟨ao, c, e2, er, -, -, hle⟩ := (HRX.out.made hB).parts
      simp at e2
      obtain ⟨rfl, rfl⟩ := e2
      have hRW := HHX.out.made hB
      refine (lcut_any W aX cX l2 er hle h2len hs2').mono ?_
      rintro e w' ⟨v1, v2, he, ho1, ho2, hB'⟩
      exact ⟨v1, v2, he, hRW.made hB', Row.new hRW ho1, Row.new hRW ho2⟩
    have hlf0 : 0 < (l2.take (lCut l2)).length := by have := lCut_bd h2len; rw [List.length_take]; omega
    have hrg0 : 0 < (l2.drop (lCut l2)).length := by have := lCut_bd h2len; rw [List.length_drop]; omega
    unfold finM at hfin
    rw [if_neg hsz] at hfin
    have hsz' : ¬ ((lSize l2 : Int) ≤ 256) := by omega
    generalize l2.take (lCut l2) = lf at *
    generalize l2.drop (lCut l2) = rg at *
    obtain ⟨kl, hkl⟩ : ∃ x, key0 lf = x := ⟨_, rfl⟩
    obtain ⟨kr, hkr⟩ : ∃ x, key0 rg = x := ⟨_, rfl⟩
    rw [hkl, hkr] at hfin
    have HKL := Lib.hid hkl
    have HKR := Lib.hid hkr
    obtain ⟨nm, hnm⟩ : ∃ x, nmB at_ = x := ⟨_, rfl⟩
    rw [hnm] at hfin
    have hatok : at_ < 2048 := okM_lt hbd.1 hbd.2 hok
    have HNM : Hid (∀ W, Calls Tryz.prog 88 #[.int .i64 at_] W fun e w' => e = .returned (.string nm) ∧ Below W.heap.size W w') := fun W => by rw [← hnm]; exact name_any at_ W (by omega)
    have HNA : Hid (∀ (j : Nat), j < 2048 → ∀ W, Calls Tryz.prog 88 #[.int .i64 j] W fun e w' => e = .returned (.string (nmB j)) ∧ Below W.heap.size W w') := fun j hj W => name_any j W (by omega)
    have HC0 : Hid (∀ (W : World) (G : Nat → Prop) B v (l : List Ent) x, Row W G B v l → 0 < l.length → key0 l = x → ∃ g c, v = .slice (some ⟨g, 0, none⟩) l.length c ∧ W.cell? ⟨g, 0, none⟩ = some (.string x)) := fun W G B v l x hr hl hx => by
      rw [← hx]; exact hr.at0 hl
    have HBD := Lib.hid hbd
    clear hX HRX HHX hsz h2len hs2' hall hkl hkr hnm hbd
    obtain ⟨lz, hlz⟩ : ∃ lz : Nat, lSize l2 = lz := ⟨_, rfl⟩
    rw [hlz] at hsz' HSZ
    clear hlz
    obtain ⟨n2, HN2⟩ : ∃ n2, Hid (l2.length = n2) := ⟨_, Lib.hid rfl⟩
    rw [HN2.out] at HSZ HCU hl2 ⊢
    clear HN2
    by_cases hroot : at_ = root
    · -- the root
      rw [if_pos hroot] at hfin
      simp only [Option.map_eq_some_iff, Option.bind_eq_some_iff] at hfin
      obtain ⟨⟨one, S1⟩, ha1, ⟨two, S2⟩, ha2, S3, hs3, S4, hs4, S5, hs5, e9⟩ := hfin
      simp only [Prod.mk.injEq] at e9
      simp only at ha1 ha2 hs3 hs4 hs5
      obtain ⟨rfl, rfl⟩ := e9
      subst hroot
      have hone := okM_lt HBD.out.1 HBD.out.2 (storeM_fine hs3).2
      have htwo := okM_lt HBD.out.1 HBD.out.2 (storeM_fine hs4).2
      obtain ⟨nm1, hnm1⟩ : ∃ x, nmB one = x := ⟨_, rfl⟩
      obtain ⟨nm2, hnm2⟩ : ∃ x, nmB two = x := ⟨_, rfl⟩
      rw [hnm1, hnm2] at hs5
      have HNM1 : Hid (∀ W, Calls Tryz.prog 88 #[.int .i64 one] W fun e w' => e = .returned (.string nm1) ∧ Below W.heap.size W w') := fun W => by rw [← hnm1]; exact HNA.out one hone W
      have HNM2 : Hid (∀ W, Calls Tryz.prog 88 #[.int .i64 two] W fun e w' => e = .returned (.string nm2) ∧ Below W.heap.size W w') := fun W => by rw [← hnm2]; exact HNA.out two htwo W
      clear hnm1 hnm2 HNA
      go_wp2_with fail
      refine HSZ.out.mono ?_
      rintro e w7 ⟨rfl, hB7⟩
      have hcu := HCU.out w7 hB7
      clear HCU HSZ
      go_wp2_with fail
      refine hcu.mono ?_
      rintro e w8 ⟨v1, v2, rfl, hR8, rl8, rr8⟩
      obtain ⟨-, t8⟩ := hR8.tin.cell
      obtain ⟨t8', -⟩ := hR8.tin.cell
      have hA1 := alloc_run hR8 one ha1 (by omega)
      clear hcu hB7
      go_wp2_with fail
      refine hA1.mono ?_
      rintro e w9 ⟨F9, V9, rfl, hR9, k9⟩
      have rl9 := k9 _ _ _ rl8
      have rr9 := k9 _ _ _ rr8
      have hA2 := alloc_run hR9 two ha2 (by omega)
      clear hA1 hR8 rl8 rr8 k9 t8 t8'
      go_wp2_with fail
      refine hA2.mono ?_
      rintro e w10 ⟨F10, V10, rfl, hR10, k10⟩
      have rl10 := k10 _ _ _ rl9
      have rr10 := k10 _ _ _ rr9
      obtain ⟨al, cl, rfl, erl, -⟩ := rl10.parts
      have hS3 := store_run hR10 one 1 lf al cl erl hs3 (by omega)
      clear hA2 hR9 rl9 rr9 k10 erl
      go_wp2_with fail
      refine hS3.mono ?_
      rintro e w11 ⟨F11, V11, rfl, hR11, k11⟩
      have rl11 := k11 _ _ _ rl10
      have rr11 := k11 _ _ _ rr10
      obtain ⟨ar, cr, rfl, err, -⟩ := rr11.parts
      have hS4 := store_run hR11 two 1 rg ar cr err hs4 (by omega)
      clear hS3 hR10 rl10 rr10 k11 err
      go_wp2_with fail
      refine hS4.mono ?_
      rintro e w12 ⟨F12, V12, rfl, hR12, k12⟩
      obtain ⟨g1, c1, e1, cc1⟩ := HC0.out _ _ _ _ _ kl (k12 _ _ _ rl11) hlf0 HKL.out
      obtain ⟨g2, c2, e2, cc2⟩ := HC0.out _ _ _ _ _ kr (k12 _ _ _ rr11) hrg0 HKR.out
      simp at e1 e2
      obtain ⟨rfl, rfl⟩ := e1
      obtain ⟨rfl, rfl⟩ := e2
      have HCC : Hid (∀ W, Below w12.heap.size w12 W → W.cell? ⟨g1, 0, none⟩ = some (.string kl) ∧ W.cell? ⟨g2, 0, none⟩ = some (.string kr)) := fun W hB =>
        ⟨(hB.cell (p := ⟨g1, 0, none⟩) (World.block_lt_of_cell? w12 _ cc1)).trans cc1, (hB.cell (p := ⟨g2, 0, none⟩) (World.block_lt_of_cell? w12 _ cc2)).trans cc2⟩
      have HKP : Hid (∀ (W W' : World) (F' : Nat → Prop), Below w12.heap.size w12 W → Keeps W F12 W' F' → W'.cell? ⟨g1, 0, none⟩ = some (.string kl) ∧ W'.cell? ⟨g2, 0, none⟩ = some (.string kr)) := fun W W' F' hB hk => by
        obtain ⟨g3, c3, e3, cc3⟩ := HC0.out _ _ _ _ _ kl (hk _ _ _ ((k12 _ _ _ rl11).made hB)) hlf0 HKL.out
        obtain ⟨g4, c4, e4, cc4⟩ := HC0.out _ _ _ _ _ kr (hk _ _ _ ((k12 _ _ _ rr11).made hB)) hrg0 HKR.out
        simp at e3 e4
        obtain ⟨rfl, rfl⟩ := e3
        obtain ⟨rfl, rfl⟩ := e4
        exact ⟨cc3, cc4⟩
      have HR12 := Lib.hid hR12
      obtain ⟨d1, d2⟩ := HCC.out w12.drew ((Below.refl _ _).drew)
      have hn1 := HNM1.out w12.drew
      clear hS4 hR11 rl11 rr11 k12 hR12 cc1 cc2 HC0 HNM1
      have z1 : (0 : Int) < (lf.length : Int) := by omega
      have z2 : (0 : Int) < (rg.length : Int) := by omega
      generalize lf.length = nlf at *
      generalize rg.length = nrg at *
      go_upto_region 16 with fail
      go_region_held3 (fun w' => w'.cell? ⟨g1, 0, none⟩ = some (.string kl) ∧ w'.cell? ⟨g2, 0, none⟩ = some (.string kr)) (go_keep) (first
        | (go_at_call 29; refine hS5.mono ?_; rintro e w15 ⟨F15, V15, rfl, hR15, k15⟩
           have HR15 := Lib.hid hR15
           obtain ⟨d7, d8⟩ := HKP.out _ w15 F15 hB24a k15)
        | (go_at_call 88; refine hn2.mono ?_; rintro e w14 ⟨rfl, hB14⟩
           have hB24 : Below w12.heap.size w12 w14 := hB23.trans (hB14.mono hB23.size)
           obtain ⟨d5, d6⟩ := HCC.out w14 hB24
           have d56 : ∀ o, (w14.alloc o).cell? ⟨g1, 0, none⟩ = some (.string kl) ∧ (w14.alloc o).cell? ⟨g2, 0, none⟩ = some (.string kr) := fun o => HCC.out _ (hB24.alloc (by have := hB24.size; omega) o)
           have hB24a := hB24.alloc (by have := hB24.size; omega) (.cells #[.string kl, .string nm1, .string kr, .string nm2] 59)
           have hR14 := HR12.out.made (hB24.alloc (by have := hB24.size; omega) (.cells #[.string kl, .string nm1, .string kr, .string nm2] 59))
           have ho14 := EOwn.of_new w14 #[.string kl, .string nm1, .string kr, .string nm2] [(kl, nm1), (kr, nm2)] rfl (by unfold maxLen; simp)
           obtain ⟨ax, cx, ex, rx, -⟩ := ho14.parts
           have hS5 := store_run hR14 at_ 2 [(kl, nm1), (kr, nm2)] (some ⟨w14.heap.size, 0, none⟩) 2 (by simp at ex; obtain ⟨rfl, rfl⟩ := ex; exact rx) hs5 (by omega))
        | (go_at_call 88; refine hn1.mono ?_; rintro e w13 ⟨rfl, hB13⟩
           have hB23 : Below w12.heap.size w12 w13 := ((Below.refl _ w12).drew).trans hB13
           obtain ⟨d3, d4⟩ := HCC.out w13 hB23
           have hn2 := HNM2.out w13))
      all_goals
        have HFN : Hid (∀ W, Below w15.heap.size w15 W → TRun w0 w (W.alloc (.cells #[.string ⟨#[]⟩, .string nm] 59)) s dk F F15 n V15 D (N + 100 * (d + 1 : Nat)) t at_ S5 ∧ Row (W.alloc (.cells #[.string ⟨#[]⟩, .string nm] 59)) F15 w.heap.size (.slice (some ⟨W.heap.size, 0, none⟩) 1 1) [(⟨#[]⟩, nm)]) := fun W hB => by
          have h9 := HR15.out.made hB
          have hB9 : Below W.heap.size W (W.alloc (.cells #[.string ⟨#[]⟩, .string nm] 59)) := (Below.refl _ _).alloc (Nat.le_refl _) _
          exact ⟨(h9.made hB9).mono (by push_cast; omega), Row.new h9 (EOwn.of_new W _ [(⟨#[]⟩, nm)] rfl (by unfold maxLen; simp))⟩
        have hn15 := HNM.out w15
        clear HR15 HKP HCC HR12
        go_wp2_with fail
        refine hn15.mono ?_
        rintro e w16 ⟨rfl, hB16⟩
        have HFF := Lib.hid (HFN.out w16 hB16)
        clear HFN
        go_wp2
        go_ret
        exact ⟨F15, V15, _, _, rfl, HFF.out.1, HFF.out.2⟩
    · -- another page
      rw [if_neg hroot] at hfin
      simp only [Option.map_eq_some_iff, Option.bind_eq_some_iff] at hfin
      obtain ⟨⟨more, S1⟩, ha1, S2, hs2x, S3, hs3, e9⟩ := hfin
      simp only [Prod.mk.injEq] at e9
      simp only at ha1 hs2x hs3
      have hmore := okM_lt HBD.out.1 HBD.out.2 (storeM_fine hs3).2
      obtain ⟨nm1, hnm1⟩ : ∃ x, nmB more = x := ⟨_, rfl⟩
      rw [hnm1] at e9
      obtain ⟨rfl, rfl⟩ := e9
      have HNM1 : Hid (∀ W, Calls Tryz.prog 88 #[.int .i64 more] W fun e w' => e = .returned (.string nm1) ∧ Below W.heap.size W w') := fun W => by rw [← hnm1]; exact HNA.out more hmore W
      have hroot' : ¬ ((at_ : Int) = (root : Int)) := by omega
      clear hnm1 HNA hroot
      go_wp2_with fail
      refine HSZ.out.mono ?_
      rintro e w7 ⟨rfl, hB7⟩
      have hcu := HCU.out w7 hB7
      clear HCU HSZ
      go_wp2_with fail
      refine hcu.mono ?_
      rintro e w8 ⟨v1, v2, rfl, hR8, rl8, rr8⟩
      obtain ⟨-, t8⟩ := hR8.tin.cell
      have hA1 := alloc_run hR8 more ha1 (by omega)
      clear hcu hB7
      go_wp2_with fail
      refine hA1.mono ?_
      rintro e w9 ⟨F9, V9, rfl, hR9, k9⟩
      have rl10 := k9 _ _ _ rl8
      have rr10 := k9 _ _ _ rr8
      obtain ⟨al, cl, rfl, erl, -⟩ := rl10.parts
      have hS3 := store_run hR9 at_ 1 lf al cl erl hs2x (by omega)
      clear hA1 hR8 rl8 rr8 k9 t8 erl
      go_wp2_with fail
      refine hS3.mono ?_
      rintro e w11 ⟨F11, V11, rfl, hR11, k11⟩
      have rl11 := k11 _ _ _ rl10
      have rr11 := k11 _ _ _ rr10
      obtain ⟨ar, cr, rfl, err, -⟩ := rr11.parts
      have hS4 := store_run hR11 more 1 rg ar cr err hs3 (by omega)
      clear hS3 hR9 rl10 rr10 k11 err
      go_wp2_with fail
      refine hS4.mono ?_
      rintro e w12 ⟨F12, V12, rfl, hR12, k12⟩
      obtain ⟨g1, c1, e1, cc1⟩ := HC0.out _ _ _ _ _ kl (k12 _ _ _ rl11) hlf0 HKL.out
      obtain ⟨g2, c2, e2, cc2⟩ := HC0.out _ _ _ _ _ kr (k12 _ _ _ rr11) hrg0 HKR.out
      simp at e1 e2
      obtain ⟨rfl, rfl⟩ := e1
      obtain ⟨rfl, rfl⟩ := e2
      have HCC : Hid (∀ W, Below w12.heap.size w12 W → W.cell? ⟨g1, 0, none⟩ = some (.string kl) ∧ W.cell? ⟨g2, 0, none⟩ = some (.string kr)) := fun W hB =>
        ⟨(hB.cell (p := ⟨g1, 0, none⟩) (World.block_lt_of_cell? w12 _ cc1)).trans cc1, (hB.cell (p := ⟨g2, 0, none⟩) (World.block_lt_of_cell? w12 _ cc2)).trans cc2⟩
      have HFN : Hid (∀ W, Below w12.heap.size w12 W → TRun w0 w (W.alloc (.cells #[.string kl, .string nm, .string kr, .string nm1] 59)) s dk F F12 n V12 D (N + 100 * (d + 1 : Nat)) t root S3 ∧ Row (W.alloc (.cells #[.string kl, .string nm, .string kr, .string nm1] 59)) F12 w.heap.size (.slice (some ⟨W.heap.size, 0, none⟩) 2 2) [(kl, nm), (kr, nm1)]) := fun W hB => by
        have h9 := hR12.made hB
        have hB9 : Below W.heap.size W (W.alloc (.cells #[.string kl, .string nm, .string kr, .string nm1] 59)) := (Below.refl _ _).alloc (Nat.le_refl _) _
        exact ⟨(h9.made hB9).mono (by push_cast; omega), Row.new h9 (EOwn.of_new W _ [(kl, nm), (kr, nm1)] rfl (by unfold maxLen; simp))⟩
      obtain ⟨d1, d2⟩ := HCC.out w12.drew ((Below.refl _ _).drew)
      have hn1 := HNM.out w12.drew
      clear hS4 hR11 rl11 rr11 k12 hR12 cc1 cc2 HC0 HNM
      have z1 : (0 : Int) < (lf.length : Int) := by omega
      have z2 : (0 : Int) < (rg.length : Int) := by omega
      generalize lf.length = nlf at *
      generalize rg.length = nrg at *
      go_upto_region 21 with fail
      go_region_held3 (fun w' => w'.cell? ⟨g1, 0, none⟩ = some (.string kl) ∧ w'.cell? ⟨g2, 0, none⟩ = some (.string kr)) (go_keep) (first
        | (go_at_call 88; refine hn2.mono ?_; rintro e w14 ⟨rfl, hB14⟩
           have hB24 : Below w12.heap.size w12 w14 := hB23.trans (hB14.mono hB23.size)
           obtain ⟨d5, d6⟩ := HCC.out w14 hB24
           have d56 : ∀ o, (w14.alloc o).cell? ⟨g1, 0, none⟩ = some (.string kl) ∧ (w14.alloc o).cell? ⟨g2, 0, none⟩ = some (.string kr) := fun o => HCC.out _ (hB24.alloc (by have := hB24.size; omega) o)
           have HFF := Lib.hid (HFN.out w14 hB24))
        | (go_at_call 88; refine hn1.mono ?_; rintro e w13 ⟨rfl, hB13⟩
           have hB23 : Below w12.heap.size w12 w13 := ((Below.refl _ w12).drew).trans hB13
           obtain ⟨d3, d4⟩ := HCC.out w13 hB23
           have hn2 := HNM1.out w13))
      all_goals
        go_wp2
        go_ret
        exact ⟨F12, V12, _, _, rfl, HFF.out.1, HFF.out.2⟩
/-- what put does with so many steps down at hand -/
def PutOk (w0 : World) (s dk t root : Nat) (n : Int) (D : Int → ByteArray) (key value : ByteArray) (d : Nat) : Prop := ∀ (w : World) (F : Nat → Prop) (V : Int → ByteArray) (N : Int) (S S' : TS) (at_ : Nat) (ps : List Ent), TIn w0 w s dk F n V D N t root S →
  putM (jFirst n).toNat (spMany n) root key value d S at_ = some (S', ps) → d ≤ 66 → N + 100 * (d : Int) < 1000000000000 →
  Calls Tryz.prog 51 #[.pointer (some ⟨t, 0, none⟩), .int .i64 at_, .int .i64 (66 - (d : Int)), .string key, .string value] w fun e w' => ∃ F' V' vb vc, e = .returned (.slice (some ⟨vb, 0, none⟩) ps.length vc) ∧ TRun w0 w w' s dk F F' n V' D (N + 100 * (d : Nat)) t root S' ∧ Row w' F' w.heap.size (.slice (some ⟨vb, 0, none⟩) ps.length vc) ps
set_option maxHeartbeats 4000000 in
set_option maxRecDepth 100000 in
theorem tput_branch (key value : ByteArray) (hk : key.size ≤ 32) (hv : value.size ≤ 64) {D : Int → ByteArray} (d : Nat) (IHP : PutOk w0 s dk t root n D key value d) (w : World) (F : Nat → Prop) (V : Int → ByteArray) (N : Int) (S S' : TS) (at_ : Nat) (ps l : List Ent) (h : TIn w0 w s dk F n V D N t root S)
    (hld : loadM S at_ = some (2, l)) (hp : (match l[cIx l key]? with
      | none => none
      | some e => if e.2.size < 2 then none else (putM (jFirst n).toNat (spMany n) root key value d S (pgN e.2)).bind fun r => match r.2 with
        | [] => none
        | q :: qs => finM (jFirst n).toNat (spMany n) root r.1 at_ 2 (repL l (cIx l key) ((minB e.1 q.1, q.2) :: qs))) = some (S', ps)) (hd : d + 1 ≤ 66) (hN : N + 100 * ((d + 1 : Nat) : Int) < 1000000000000) :
    Calls Tryz.prog 51 #[.pointer (some ⟨t, 0, none⟩), .int .i64 at_, .int .i64 (66 - ((d + 1 : Nat) : Int)), .string key, .string value] w fun e w' => ∃ F' V' vb vc, e = .returned (.slice (some ⟨vb, 0, none⟩) ps.length vc) ∧ TRun w0 w w' s dk F F' n V' D (N + 100 * (d + 1 : Nat)) t root S' ∧ Row w' F' w.heap.size (.slice (some ⟨vb, 0, none⟩) ps.length vc) ps := by
  obtain ⟨hfine, hok⟩ := loadM_ok h.shows hld
  have hL := load_run h.run at_ 2 l hld (by push_cast at hN; omega)
  have hlen := hfine.len
  have hasc := hfine.asc
  have hlsz := hfine.size
  push_cast at hN
  have hix : cIx l key < l.length ∨ ¬ cIx l key < l.length := by omega
  rcases hix with hix | hix
  · rw [List.getElem?_eq_getElem hix] at hp
    simp only at hp
    obtain ⟨q, hq⟩ : ∃ q, l[cIx l key] = q := ⟨_, rfl⟩
    rw [hq] at hp
    split at hp
    · cases hp
    · rename_i hsz2
      simp only [Option.bind_eq_some_iff] at hp
      obtain ⟨⟨S1, pr⟩, hrec, hp⟩ := hp
      have hpt := putM_parts hrec
      simp only at hp hpt
      cases pr with
      | nil => simp at hp
      | cons p0 pr =>
        simp only at hp
        obtain ⟨l2, hl2e⟩ : ∃ l2, repL l (cIx l key) ((minB q.1 p0.1, p0.2) :: pr) = l2 := ⟨_, rfl⟩
        have hqb := hfine.all q (by rw [← hq]; exact List.getElem_mem hix)
        have hp0 := hpt.ok p0 (by simp)
        have hmin : (minB q.1 p0.1).size ≤ 32 := by unfold minB; split; exact hqb.1; exact hp0.1
        have hl2 : 0 < l2.length := by rw [← hl2e]; unfold repL; simp; omega
        have hall : ∀ x ∈ l2, x.1.size ≤ 32 ∧ x.2.size ≤ 64 := by
          intro x hx
          rw [← hl2e] at hx
          unfold repL at hx
          simp only [List.mem_append, List.mem_cons] at hx
          rcases hx with (hx | rfl | hx) | hx
          · exact hfine.all x (List.mem_of_mem_take hx)
          · exact ⟨hmin, by simp only; omega⟩
          · have := hpt.ok x (by simp [hx]); exact ⟨this.1, by omega⟩
          · exact hfine.all x (List.mem_of_mem_drop hx)
        have hs2 : lSize l2 ≤ 1000 := by
          have h1 := lSum_rep l ((minB q.1 p0.1, p0.2) :: pr) (cIx l key)
          have h2 : lSum ((minB q.1 p0.1, p0.2) :: pr) ≤ 72 := by
            have hle := hpt.le
            simp only [List.length_cons] at hle
            rcases pr with _ | ⟨p1, pr⟩
            · simp [lSum]; omega
            · have : pr = [] := List.length_eq_zero_iff.1 (by simp only [List.length_cons] at hle; omega)
              subst this
              have hp1 := hpt.ok p1 (by simp)
              simp [lSum]; omega
          rw [hl2e] at h1
          unfold lSize at hlsz ⊢
          omega
        rw [hl2e] at hp
        have hfin := hp
        have IH := fun (w3 : World) (F3 : Nat → Prop) (h3 : TIn w0 w3 s dk F3 n V D (N + 4) t root S) => IHP w3 F3 V (N + 4) S S1 (pgN q.2) (p0 :: pr) h3 hrec (by omega) (by omega)
        have HIH := Lib.hid IH
        have hdeep : d ≠ 0 := fun e => by subst e; simp [putM] at hrec
        -- what the clone and the replacement come to
        have HRP : Hid (∀ (W : World) G U M SX v vb vc, TRun w0 w W s dk F G n U D M t root SX → Row W G w.heap.size v l → Row W G w.heap.size (.slice (some ⟨vb, 0, none⟩) (pr.length + 1) vc) ((minB q.1 p0.1, p0.2) :: pr) → ∃ aL cL, v = .slice aL l.length cL ∧ Calls Tryz.prog 80 #[.slice aL l.length cL] W fun e w' => ∃ v2, e = .returned v2 ∧ Calls Tryz.prog 86 #[v2, .int .i64 (cIx l key : Nat), .int .i64 ((cIx l key : Int) + 1), .slice (some ⟨vb, 0, none⟩) (pr.length + 1) vc] w' fun e w'' => ∃ v3, e = .returned v3 ∧ TRun w0 w w'' s dk F G n U D M t root SX ∧ Row w'' G w.heap.size v3 l2) := fun W G U M SX v vb vc hr hv hps => by
          obtain ⟨aL, cL, rfl, er, hat, hnil, -⟩ := hv.parts
          refine ⟨aL, cL, rfl, (clone_any W aL cL l er hat hnil (by omega)).mono ?_⟩
          rintro e w' ⟨v2, he, ho, hB⟩
          refine ⟨v2, he, ?_⟩
          have hps' := (hps.made hB).own
          have hvb := (hps.own.lt vb rfl).2
          have hle := hpt.le
          simp only [List.length_cons] at hle
          have hrep := replace_any w' W.heap.size v2 l ((minB q.1 p0.1, p0.2) :: pr) ho hB.size (cIx l key) hix vb vc (hps'.base (Nat.zero_le _)) (by simp) (by simpa using hle) (fun e => by have := (ho.lt _ e).1; omega) (by omega)
          refine hrep.mono ?_
          rintro e w'' ⟨v3, he3, ho3, hB3⟩
          rw [hl2e] at ho3
          exact ⟨v3, he3, (hr.made (hB.trans hB3)), Row.new hr ho3⟩
        have HCH : Hid (∀ (W : World) G v, Row W G w.heap.size v l → ∃ aL cL, v = .slice aL l.length cL ∧ Calls Tryz.prog 42 #[.slice aL l.length cL, .string key] W fun e w' => e = .returned (.int .i64 (cIx l key : Nat)) ∧ Below W.heap.size W w') := fun W G v hv => by
          obtain ⟨aL, cL, rfl, er, -⟩ := hv.parts
          exact ⟨aL, cL, rfl, child_any W aL cL l key er hasc (by omega)⟩
        have HAT : Hid (∀ (W : World) G B v, Row W G B v l → ∃ g c, v = .slice (some ⟨g, 0, none⟩) l.length c ∧ W.cell? ⟨g, cIx l key * 2, none⟩ = some (.string q.1) ∧ W.cell? ⟨g, cIx l key * 2 + 1, none⟩ = some (.string q.2)) := fun W G B v hv => by
          obtain ⟨aL, cL, rfl, er, -⟩ := hv.parts
          obtain ⟨g, off, rfl, c0, c1⟩ := er.at hix
          obtain ⟨g', cur, e, -⟩ := hv.own.block
          simp at e
          obtain ⟨rfl, rfl⟩ := e
          rw [hq, Nat.zero_add] at c0 c1
          exact ⟨g, cL, rfl, c0, c1⟩
        have HPG : Hid (∀ W, Calls Tryz.prog 41 #[.agg #[.string q.1, .string q.2]] W fun e w' => e = .returned (.int .i64 (pgN q.2 : Nat)) ∧ Below W.heap.size W w') := fun W => page_of q.1 q.2 W (by omega) (by omega)
        have HDN : Hid (∀ W, Calls Tryz.prog 38 #[.int .i64 (66 - ((d : Int) + 1))] W fun e w' => e = .returned (.int .i64 (66 - (d : Int))) ∧ W = w') := fun W => by
          have := down_any (66 - ((d : Int) + 1)) W (by omega) (by omega)
          rw [show 66 - ((d : Int) + 1) + 1 = 66 - (d : Int) by omega] at this
          exact this
        have HK0 : Hid (∀ (W : World) B g c, EOwn W B (.slice (some ⟨g, 0, none⟩) (pr.length + 1) c) (p0 :: pr) → EOwn (W.setCell ⟨g, 0, none⟩ (.string (minB q.1 p0.1))) B (.slice (some ⟨g, 0, none⟩) (pr.length + 1) c) ((minB q.1 p0.1, p0.2) :: pr)) := fun W B g c h => h.setKey0 _
        have HMI : Hid (∀ ts ty W, (Builtin.min_ ts ty #[.string q.1, .string p0.1]).run Tryz.prog W = .ok (.string (minB q.1 p0.1)) W) := fun ts ty W => by
          unfold minB ltB
          simp [Builtin.min_, Builtin.min2, Op.stringOp, asBool, Result.andThen]
        have hixl : (cIx l key : Int) < (l.length : Int) := by omega
        clear hp hl2e hfine hlsz hld hq hpt hqb hp0 hmin hrec IH hsz2
        generalize cIx l key = ix at *
        generalize pgN q.2 = pq at *
        go_enter Tryz.func51, Tryz.ntmps51
        go_wp2_with fail
        refine hL.mono ?_
        rintro e w1 ⟨F1, v, rfl, hR1, hrow1, -⟩
        obtain ⟨aL, cLL, rfl, hch⟩ := HCH.out w1 F1 v hrow1
        have HTN : Hid (t < w.heap.size ∧ s < w.heap.size ∧ w0.heap.size ≤ w.heap.size) := ⟨lt_of h.at_.obj, h.sin.slt, h.sin.below.size⟩
        clear hL HCH h
        go_wp2_with fail
        refine hch.mono ?_
        rintro e w2 ⟨rfl, hB2⟩
        have hR2 := hR1.made hB2
        have row2 := hrow1.made hB2
        obtain ⟨g, cL2, eL, c0, c1⟩ := HAT.out w2 F1 _ _ row2
        simp at eL
        obtain ⟨rfl, rfl⟩ := eL
        have hpg := HPG.out w2
        clear hch hR1 hrow1 HPG
        go_wp2_with fail
        refine hpg.mono ?_
        rintro e w3 ⟨rfl, hB3⟩
        have hdn := HDN.out w3
        have hR3 := hR2.made hB3
        have row3 := row2.made hB3
        have hih := HIH.out w3 F1 hR3.tin
        clear hpg hR2 row2 c0 c1 HDN HIH hB2
        go_wp2_with fail
        refine hdn.mono ?_
        rintro e w3' ⟨rfl, rfl⟩
        clear hdn
        go_wp2_with fail
        refine hih.mono ?_
        rintro e w4 ⟨F4, V4, vb, vc, rfl, hR4, row4⟩
        have rowl4 := hR4.tst.keeps _ _ _ row3
        have hRj := hR3.join hR4
        have hvb := hR3.size
        have hvb3 := (row4.own.lt vb rfl).1
        have hgl3 := (row3.own.lt g rfl).2
        obtain ⟨g4, cL4, eL, c0, -⟩ := HAT.out w4 F4 _ _ rowl4
        simp at eL
        obtain ⟨rfl, rfl⟩ := eL
        obtain ⟨gp, cp, ep, cp0⟩ := row4.at0 (by simp)
        simp at ep
        obtain ⟨rfl, rfl⟩ := ep
        obtain ⟨curp, hcurp⟩ : ∃ cur, w4.heap[vb]? = some (.cells cur 59 (0, 0)) := by
          obtain ⟨g', cur, e, -, -, hg, -⟩ := row4.own.block
          simp at e
          subst e
          exact ⟨cur, hg⟩
        have f0 : w4.drew.frozen? ⟨vb, 0, none⟩ = false := frozen_of (w := w4.drew) hcurp 0
        have d0 : w4.drew.cell? ⟨g, ix * 2, none⟩ = some (.string q.1) := c0
        have d1 : w4.drew.cell? ⟨vb, 0, none⟩ = some (.string p0.1) := cp0
        have hmi := fun ts ty => HMI.out ts ty w4.drew
        have HW5 : Hid (∀ W5, W5 = w4.drew.setCell ⟨vb, 0, none⟩ (.string (minB q.1 p0.1)) → ∃ aL cL, some (⟨g, 0, none⟩ : Addr) = aL ∧ cLL = cL ∧ Calls Tryz.prog 80 #[.slice aL l.length cL] W5 fun e w' => ∃ v2, e = .returned v2 ∧ Calls Tryz.prog 86 #[v2, .int .i64 ix, .int .i64 ((ix : Int) + 1), .slice (some ⟨vb, 0, none⟩) (pr.length + 1) vc] w' fun e w'' => ∃ v3, e = .returned v3 ∧ TRun w0 w w'' s dk F F4 n V4 D (N + 4 + 100 * (d : Int)) t root S1 ∧ Row w'' F4 w.heap.size v3 l2) := fun W5 e5 => by
          subst e5
          have hRd := hRj.made ((Below.refl _ w4).drew)
          obtain ⟨t1, t2, t3⟩ := HTN.out
          have hR5 := hRd.cell t3 (by omega) (row4.out vb rfl) (by omega) (by omega) 0 (.string (minB q.1 p0.1))
          have hne : g ≠ vb := by omega
          have rowl5 : Row (w4.drew.setCell ⟨vb, 0, none⟩ (.string (minB q.1 p0.1))) F4 w.heap.size (.slice (some ⟨g, 0, none⟩) l.length cLL) l :=
            ⟨rowl4.own.keep fun b hb => by simp [Value.ownBlock] at hb; subst hb; exact setCell_other (w := w4.drew) hne, rowl4.out⟩
          have row5 : Row (w4.drew.setCell ⟨vb, 0, none⟩ (.string (minB q.1 p0.1))) F4 w.heap.size (.slice (some ⟨vb, 0, none⟩) (pr.length + 1) vc) ((minB q.1 p0.1, p0.2) :: pr) :=
            ⟨HK0.out w4.drew _ vb vc ((row4.own.base hvb).drewN 1), row4.out⟩
          obtain ⟨aL, cL, e6, hc⟩ := HRP.out _ _ _ _ _ _ _ _ hR5 rowl5 row5
          simp at e6
          obtain ⟨rfl, rfl⟩ := e6
          exact ⟨_, _, rfl, rfl, hc⟩
        have z1 : (0 : Int) < (pr.length : Int) + 1 := by omega
        clear hih hR3 row3 hR4 row4 rowl4 hRj hvb hvb3 hgl3 c0 cp0 hcurp HRP HAT HK0 HMI HTN
        generalize minB q.1 p0.1 = mk at *
        generalize hlL : l.length = nl at *
        clear hlL
        go_upto_region 6 with fail
        go_region
        all_goals
          obtain ⟨aL, cL, rfl, rfl, hcl⟩ := HW5.out ((w4.setCell ⟨vb, 0, none⟩ (.string mk)).drew) rfl
          clear HW5 d0 d1 f0 hmi
          generalize (w4.setCell ⟨vb, 0, none⟩ (.string mk)).drew = w5 at *
          go_wp2_with fail
          refine hcl.mono ?_
          rintro e w6 ⟨v2, rfl, hrp⟩
          clear hcl
          go_wp2_with fail
          refine hrp.mono ?_
          rintro e wX ⟨vX, rfl, hX, rX⟩
          clear hrp
          obtain ⟨aX, cX, rfl, eX, atX, nilX, lenX⟩ := rX.parts
          have HSZ := Lib.hid (lsize_any wX aX cX l2 eX (by omega))
          have HRX := Lib.hid rX
          have HHX := Lib.hid hX
          have hbd := hX.tin.bd
          clear eX atX nilX rX
          by_cases hsz : lSize l2 ≤ 256
          · -- one page
            unfold finM at hfin
            rw [if_pos hsz] at hfin
            simp only [Option.map_eq_some_iff] at hfin
            obtain ⟨S9, hs9, e9⟩ := hfin
            simp only [Prod.mk.injEq] at e9
            obtain ⟨k0, hk0⟩ : ∃ x, key0 l2 = x := ⟨_, rfl⟩
            obtain ⟨nm, hnm⟩ : ∃ x, nmB at_ = x := ⟨_, rfl⟩
            rw [hk0, hnm] at e9
            obtain ⟨rfl, rfl⟩ := e9
            have hat9 := okM_lt hbd.1 hbd.2 (storeM_fine hs9).2
            have HST : Hid (∀ W, Below wX.heap.size wX W → ∃ g c, aX = some ⟨g, 0, none⟩ ∧ cX = c ∧ Calls Tryz.prog 29 #[.pointer (some ⟨t, 0, none⟩), .int .i64 at_, .int .i64 2, .slice aX l2.length cX] W fun e w' => e = .returned (.tuple #[]) ∧ ∃ F1 V1, TRun w0 w w' s dk F F1 n V1 D (N + 100 * (d + 1 : Nat)) t root S9 ∧ (∀ W2, Below w'.heap.size w' W2 → W2.cell? ⟨g, 0, none⟩ = some (.string (key0 l2)))) := fun W hB => by
              obtain ⟨g, c, e, -⟩ := HRX.out.at0 hl2
              simp at e
              obtain ⟨rfl, rfl⟩ := e
              refine ⟨g, _, rfl, rfl, ?_⟩
              obtain ⟨_, _, e2, er, -⟩ := (HRX.out.made hB).parts
              simp at e2
              obtain ⟨rfl, rfl⟩ := e2
              refine (store_run (HHX.out.made hB) at_ 2 l2 _ _ er hs9 (by omega)).mono ?_
              rintro e w' ⟨F1, V1, he, hr, hk⟩
              refine ⟨he, F1, V1, hr.mono (by push_cast; omega), fun W2 hB2 => ?_⟩
              obtain ⟨g2, c2, e3, c0⟩ := ((hk _ _ _ (HRX.out.made hB)).made hB2).at0 hl2
              simp at e3
              obtain ⟨rfl, rfl⟩ := e3
              exact c0
            have HNM : Hid (∀ W, Calls Tryz.prog 88 #[.int .i64 at_] W fun e w' => e = .returned (.string (nmB at_)) ∧ Below W.heap.size W w') := fun W => name_any at_ W (by omega)
            have HFN : Hid (∀ (w8 w9 : World) F1 V1, TRun w0 w w8 s dk F F1 n V1 D (N + 100 * (d + 1 : Nat)) t root S9 → Below w8.heap.size w8 w9 → TRun w0 w (w9.alloc (.cells #[.string (key0 l2), .string (nmB at_)] 59)) s dk F F1 n V1 D (N + 100 * (d + 1 : Nat)) t root S9 ∧ Row (w9.alloc (.cells #[.string (key0 l2), .string (nmB at_)] 59)) F1 w.heap.size (.slice (some ⟨w9.heap.size, 0, none⟩) 1 1) [(key0 l2, nmB at_)]) := fun w8 w9 F1 V1 hr hB => by
              have h9 := hr.made hB
              have hB9 : Below w9.heap.size w9 (w9.alloc (.cells #[.string (key0 l2), .string (nmB at_)] 59)) := (Below.refl _ _).alloc (Nat.le_refl _) _
              exact ⟨h9.made hB9, Row.new h9 (EOwn.of_new w9 _ [(key0 l2, nmB at_)] rfl (by unfold maxLen; simp))⟩
            have hsz' : (lSize l2 : Int) ≤ 256 := by omega
            clear hX HRX HHX hsz hs9 hbd
            obtain ⟨lz, hlz⟩ : ∃ lz : Nat, lSize l2 = lz := ⟨_, rfl⟩
            rw [hlz] at hsz' HSZ
            clear hlz
            rw [hk0] at HST HFN
            rw [hnm] at HFN HNM
            clear hk0 hnm
            obtain ⟨n2, HN2⟩ : ∃ n2, Hid (l2.length = n2) := ⟨_, Lib.hid rfl⟩
            rw [HN2.out] at HSZ HST hl2 ⊢
            clear HN2
            go_wp2_with fail
            refine HSZ.out.mono ?_
            rintro e w7 ⟨rfl, hB7⟩
            obtain ⟨g, c, rfl, rfl, hst⟩ := HST.out w7 hB7
            clear HST HSZ
            go_wp2_with fail
            refine hst.mono ?_
            rintro e w8 ⟨rfl, F9, V9, hR9, hc9⟩
            have HR9 := Lib.hid hR9
            have HC9 : Hid (∀ W2, Below w8.heap.size w8 W2 → W2.cell? ⟨g, 0, none⟩ = some (.string k0)) := hc9
            have c8 : w8.drew.cell? ⟨g, 0, none⟩ = some (.string k0) := hc9 w8.drew ((Below.refl _ _).drew)
            have HN8 := Lib.hid (HNM.out w8.drew)
            clear hst hR9 hc9 HNM
            have z1 : (0 : Int) < (n2 : Int) := by omega
            go_upto_region 10 with fail
            go_region_held3 (fun w' => w'.cell? ⟨g, 0, none⟩ = some (.string k0)) (go_keep) (first
              | (go_at_call 88; refine HN8.out.mono ?_; rintro e w9 ⟨rfl, hB9⟩
                 have hB89 : Below w8.heap.size w8 w9 := ((Below.refl _ w8).drew).trans hB9
                 have c9 := HC9.out w9 hB89
                 have HFF := Lib.hid (HFN.out w8 w9 F9 V9 HR9.out hB89)
                 have c9b : ∀ o, (w9.alloc o).cell? ⟨g, 0, none⟩ = some (.string k0) := fun o => HC9.out _ (hB89.alloc (by have := hB89.size; omega) o)))
            all_goals
              go_wp2
              go_ret
              exact ⟨F9, V9, _, _, rfl, HFF.out.1, HFF.out.2⟩
          · -- two pages
            have h2len : 2 ≤ l2.length := by
              rcases Nat.lt_or_ge l2.length 2 with hx | hx
              · exfalso
                obtain ⟨q, rfl⟩ : ∃ q, l2 = [q] := List.length_eq_one_iff.1 (by omega)
                have := hall q (by simp)
                unfold lSize lSum at hsz
                simp at hsz
                omega
              · exact hx
            have hs2' : lSum l2 ≤ 100000 := by unfold lSize at hs2; omega
            have HCU : Hid (∀ W, Below wX.heap.size wX W → Calls Tryz.prog 89 #[.slice aX l2.length cX] W fun e w' => ∃ v1 v2, e = .returned (.tuple #[v1, v2]) ∧ TRun w0 w w' s dk F F4 n V4 D (N + 4 + 100 * (d : Int)) t root S1 ∧ Row w' F4 w.heap.size v1 (l2.take (lCut l2)) ∧ Row w' F4 w.heap.size v2 (l2.drop (lCut l2))) := fun W hB => by
              obtain ⟨ao, c, e2, er, -, -, hle⟩ := (HRX.out.made hB).parts
              simp at e2
              obtain ⟨rfl, rfl⟩ := e2
              have hRW := HHX.out.made hB
              refine (lcut_any W aX cX l2 er hle h2len hs2').mono ?_
              rintro e w' ⟨v1, v2, he, ho1, ho2, hB'⟩
              exact ⟨v1, v2, he, hRW.made hB', Row.new hRW ho1, Row.new hRW ho2⟩
            have hlf0 : 0 < (l2.take (lCut l2)).length := by have := lCut_bd h2len; rw [List.length_take]; omega
            have hrg0 : 0 < (l2.drop (lCut l2)).length := by have := lCut_bd h2len; rw [List.length_drop]; omega
            unfold finM at hfin
            rw [if_neg hsz] at hfin
            have hsz' : ¬ ((lSize l2 : Int) ≤ 256) := by omega
            generalize l2.take (lCut l2) = lf at *
            generalize l2.drop (lCut l2) = rg at *
            obtain ⟨kl, hkl⟩ : ∃ x, key0 lf = x := ⟨_, rfl⟩
            obtain ⟨kr, hkr⟩ : ∃ x, key0 rg = x := ⟨_, rfl⟩
            rw [hkl, hkr] at hfin
            have HKL := Lib.hid hkl
            have HKR := Lib.hid hkr
            obtain ⟨nm, hnm⟩ : ∃ x, nmB at_ = x := ⟨_, rfl⟩
            rw [hnm] at hfin
            have hatok : at_ < 2048 := okM_lt hbd.1 hbd.2 hok
            have HNM : Hid (∀ W, Calls Tryz.prog 88 #[.int .i64 at_] W fun e w' => e = .returned (.string nm) ∧ Below W.heap.size W w') := fun W => by rw [← hnm]; exact name_any at_ W (by omega)
            have HNA : Hid (∀ (j : Nat), j < 2048 → ∀ W, Calls Tryz.prog 88 #[.int .i64 j] W fun e w' => e = .returned (.string (nmB j)) ∧ Below W.heap.size W w') := fun j hj W => name_any j W (by omega)
            have HC0 : Hid (∀ (W : World) (G : Nat → Prop) B v (l : List Ent) x, Row W G B v l → 0 < l.length → key0 l = x → ∃ g c, v = .slice (some ⟨g, 0, none⟩) l.length c ∧ W.cell? ⟨g, 0, none⟩ = some (.string x)) := fun W G B v l x hr hl hx => by
              rw [← hx]; exact hr.at0 hl
            have HBD := Lib.hid hbd
            clear hX HRX HHX hsz h2len hs2' hall hkl hkr hnm hbd
            obtain ⟨lz, hlz⟩ : ∃ lz : Nat, lSize l2 = lz := ⟨_, rfl⟩
            rw [hlz] at hsz' HSZ
            clear hlz
            obtain ⟨n2, HN2⟩ : ∃ n2, Hid (l2.length = n2) := ⟨_, Lib.hid rfl⟩
            rw [HN2.out] at HSZ HCU hl2 ⊢
            clear HN2
            by_cases hroot : at_ = root
            · -- the root
              rw [if_pos hroot] at hfin
              simp only [Option.map_eq_some_iff, Option.bind_eq_some_iff] at hfin
              obtain ⟨⟨one, S1⟩, ha1, ⟨two, S2⟩, ha2, S3, hs3, S4, hs4, S5, hs5, e9⟩ := hfin
              simp only [Prod.mk.injEq] at e9
              simp only at ha1 ha2 hs3 hs4 hs5
              obtain ⟨rfl, rfl⟩ := e9
              subst hroot
              have hone := okM_lt HBD.out.1 HBD.out.2 (storeM_fine hs3).2
              have htwo := okM_lt HBD.out.1 HBD.out.2 (storeM_fine hs4).2
              obtain ⟨nm1, hnm1⟩ : ∃ x, nmB one = x := ⟨_, rfl⟩
              obtain ⟨nm2, hnm2⟩ : ∃ x, nmB two = x := ⟨_, rfl⟩
              rw [hnm1, hnm2] at hs5
              have HNM1 : Hid (∀ W, Calls Tryz.prog 88 #[.int .i64 one] W fun e w' => e = .returned (.string nm1) ∧ Below W.heap.size W w') := fun W => by rw [← hnm1]; exact HNA.out one hone W
              have HNM2 : Hid (∀ W, Calls Tryz.prog 88 #[.int .i64 two] W fun e w' => e = .returned (.string nm2) ∧ Below W.heap.size W w') := fun W => by rw [← hnm2]; exact HNA.out two htwo W
              clear hnm1 hnm2 HNA
              go_wp2_with fail
              refine HSZ.out.mono ?_
              rintro e w7 ⟨rfl, hB7⟩
              have hcu := HCU.out w7 hB7
              clear HCU HSZ
              go_wp2_with fail
              refine hcu.mono ?_
              rintro e w8 ⟨v1, v2, rfl, hR8, rl8, rr8⟩
              obtain ⟨-, t8⟩ := hR8.tin.cell
              obtain ⟨t8', -⟩ := hR8.tin.cell
              have hA1 := alloc_run hR8 one ha1 (by omega)
              clear hcu hB7
              go_wp2_with fail
              refine hA1.mono ?_
              rintro e w9 ⟨F9, V9, rfl, hR9, k9⟩
              have rl9 := k9 _ _ _ rl8
              have rr9 := k9 _ _ _ rr8
              have hA2 := alloc_run hR9 two ha2 (by omega)
              clear hA1 hR8 rl8 rr8 k9 t8 t8'
              go_wp2_with fail
              refine hA2.mono ?_
              rintro e w10 ⟨F10, V10, rfl, hR10, k10⟩
              have rl10 := k10 _ _ _ rl9
              have rr10 := k10 _ _ _ rr9
              obtain ⟨al, cl, rfl, erl, -⟩ := rl10.parts
              have hS3 := store_run hR10 one 2 lf al cl erl hs3 (by omega)
              clear hA2 hR9 rl9 rr9 k10 erl
              go_wp2_with fail
              refine hS3.mono ?_
              rintro e w11 ⟨F11, V11, rfl, hR11, k11⟩
              have rl11 := k11 _ _ _ rl10
              have rr11 := k11 _ _ _ rr10
              obtain ⟨ar, cr, rfl, err, -⟩ := rr11.parts
              have hS4 := store_run hR11 two 2 rg ar cr err hs4 (by omega)
              clear hS3 hR10 rl10 rr10 k11 err
              go_wp2_with fail
              refine hS4.mono ?_
              rintro e w12 ⟨F12, V12, rfl, hR12, k12⟩
              obtain ⟨g1, c1, e1, cc1⟩ := HC0.out _ _ _ _ _ kl (k12 _ _ _ rl11) hlf0 HKL.out
              obtain ⟨g2, c2, e2, cc2⟩ := HC0.out _ _ _ _ _ kr (k12 _ _ _ rr11) hrg0 HKR.out
              simp at e1 e2
              obtain ⟨rfl, rfl⟩ := e1
              obtain ⟨rfl, rfl⟩ := e2
              have HCC : Hid (∀ W, Below w12.heap.size w12 W → W.cell? ⟨g1, 0, none⟩ = some (.string kl) ∧ W.cell? ⟨g2, 0, none⟩ = some (.string kr)) := fun W hB =>
                ⟨(hB.cell (p := ⟨g1, 0, none⟩) (World.block_lt_of_cell? w12 _ cc1)).trans cc1, (hB.cell (p := ⟨g2, 0, none⟩) (World.block_lt_of_cell? w12 _ cc2)).trans cc2⟩
              have HKP : Hid (∀ (W W' : World) (F' : Nat → Prop), Below w12.heap.size w12 W → Keeps W F12 W' F' → W'.cell? ⟨g1, 0, none⟩ = some (.string kl) ∧ W'.cell? ⟨g2, 0, none⟩ = some (.string kr)) := fun W W' F' hB hk => by
                obtain ⟨g3, c3, e3, cc3⟩ := HC0.out _ _ _ _ _ kl (hk _ _ _ ((k12 _ _ _ rl11).made hB)) hlf0 HKL.out
                obtain ⟨g4, c4, e4, cc4⟩ := HC0.out _ _ _ _ _ kr (hk _ _ _ ((k12 _ _ _ rr11).made hB)) hrg0 HKR.out
                simp at e3 e4
                obtain ⟨rfl, rfl⟩ := e3
                obtain ⟨rfl, rfl⟩ := e4
                exact ⟨cc3, cc4⟩
              have HR12 := Lib.hid hR12
              obtain ⟨d1, d2⟩ := HCC.out w12.drew ((Below.refl _ _).drew)
              have hn1 := HNM1.out w12.drew
              clear hS4 hR11 rl11 rr11 k12 hR12 cc1 cc2 HC0 HNM1
              have z1 : (0 : Int) < (lf.length : Int) := by omega
              have z2 : (0 : Int) < (rg.length : Int) := by omega
              generalize lf.length = nlf at *
              generalize rg.length = nrg at *
              go_upto_region 16 with fail
              go_region_held3 (fun w' => w'.cell? ⟨g1, 0, none⟩ = some (.string kl) ∧ w'.cell? ⟨g2, 0, none⟩ = some (.string kr)) (go_keep) (first
                | (go_at_call 29; refine hS5.mono ?_; rintro e w15 ⟨F15, V15, rfl, hR15, k15⟩
                   have HR15 := Lib.hid hR15
                   obtain ⟨d7, d8⟩ := HKP.out _ w15 F15 hB24a k15)
                | (go_at_call 88; refine hn2.mono ?_; rintro e w14 ⟨rfl, hB14⟩
                   have hB24 : Below w12.heap.size w12 w14 := hB23.trans (hB14.mono hB23.size)
                   obtain ⟨d5, d6⟩ := HCC.out w14 hB24
                   have d56 : ∀ o, (w14.alloc o).cell? ⟨g1, 0, none⟩ = some (.string kl) ∧ (w14.alloc o).cell? ⟨g2, 0, none⟩ = some (.string kr) := fun o => HCC.out _ (hB24.alloc (by have := hB24.size; omega) o)
                   have hB24a := hB24.alloc (by have := hB24.size; omega) (.cells #[.string kl, .string nm1, .string kr, .string nm2] 59)
                   have hR14 := HR12.out.made (hB24.alloc (by have := hB24.size; omega) (.cells #[.string kl, .string nm1, .string kr, .string nm2] 59))
                   have ho14 := EOwn.of_new w14 #[.string kl, .string nm1, .string kr, .string nm2] [(kl, nm1), (kr, nm2)] rfl (by unfold maxLen; simp)
                   obtain ⟨ax, cx, ex, rx, -⟩ := ho14.parts
                   have hS5 := store_run hR14 at_ 2 [(kl, nm1), (kr, nm2)] (some ⟨w14.heap.size, 0, none⟩) 2 (by simp at ex; obtain ⟨rfl, rfl⟩ := ex; exact rx) hs5 (by omega))
                | (go_at_call 88; refine hn1.mono ?_; rintro e w13 ⟨rfl, hB13⟩
                   have hB23 : Below w12.heap.size w12 w13 := ((Below.refl _ w12).drew).trans hB13
                   obtain ⟨d3, d4⟩ := HCC.out w13 hB23
                   have hn2 := HNM2.out w13))
              all_goals
                have HFN : Hid (∀ W, Below w15.heap.size w15 W → TRun w0 w (W.alloc (.cells #[.string ⟨#[]⟩, .string nm] 59)) s dk F F15 n V15 D (N + 100 * (d + 1 : Nat)) t at_ S5 ∧ Row (W.alloc (.cells #[.string ⟨#[]⟩, .string nm] 59)) F15 w.heap.size (.slice (some ⟨W.heap.size, 0, none⟩) 1 1) [(⟨#[]⟩, nm)]) := fun W hB => by
                  have h9 := HR15.out.made hB
                  have hB9 : Below W.heap.size W (W.alloc (.cells #[.string ⟨#[]⟩, .string nm] 59)) := (Below.refl _ _).alloc (Nat.le_refl _) _
                  exact ⟨(h9.made hB9).mono (by push_cast; omega), Row.new h9 (EOwn.of_new W _ [(⟨#[]⟩, nm)] rfl (by unfold maxLen; simp))⟩
                have hn15 := HNM.out w15
                clear HR15 HKP HCC HR12
                go_wp2_with fail
                refine hn15.mono ?_
                rintro e w16 ⟨rfl, hB16⟩
                have HFF := Lib.hid (HFN.out w16 hB16)
                clear HFN
                go_wp2
                go_ret
                exact ⟨F15, V15, _, _, rfl, HFF.out.1, HFF.out.2⟩
            · -- another page
              rw [if_neg hroot] at hfin
              simp only [Option.map_eq_some_iff, Option.bind_eq_some_iff] at hfin
              obtain ⟨⟨more, S1⟩, ha1, S2, hs2x, S3, hs3, e9⟩ := hfin
              simp only [Prod.mk.injEq] at e9
              simp only at ha1 hs2x hs3
              have hmore := okM_lt HBD.out.1 HBD.out.2 (storeM_fine hs3).2
              obtain ⟨nm1, hnm1⟩ : ∃ x, nmB more = x := ⟨_, rfl⟩
              rw [hnm1] at e9
              obtain ⟨rfl, rfl⟩ := e9
              have HNM1 : Hid (∀ W, Calls Tryz.prog 88 #[.int .i64 more] W fun e w' => e = .returned (.string nm1) ∧ Below W.heap.size W w') := fun W => by rw [← hnm1]; exact HNA.out more hmore W
              have hroot' : ¬ ((at_ : Int) = (root : Int)) := by omega
              clear hnm1 HNA hroot
              go_wp2_with fail
              refine HSZ.out.mono ?_
              rintro e w7 ⟨rfl, hB7⟩
              have hcu := HCU.out w7 hB7
              clear HCU HSZ
              go_wp2_with fail
              refine hcu.mono ?_
              rintro e w8 ⟨v1, v2, rfl, hR8, rl8, rr8⟩
              obtain ⟨-, t8⟩ := hR8.tin.cell
              have hA1 := alloc_run hR8 more ha1 (by omega)
              clear hcu hB7
              go_wp2_with fail
              refine hA1.mono ?_
              rintro e w9 ⟨F9, V9, rfl, hR9, k9⟩
              have rl10 := k9 _ _ _ rl8
              have rr10 := k9 _ _ _ rr8
              obtain ⟨al, cl, rfl, erl, -⟩ := rl10.parts
              have hS3 := store_run hR9 at_ 2 lf al cl erl hs2x (by omega)
              clear hA1 hR8 rl8 rr8 k9 t8 erl
              go_wp2_with fail
              refine hS3.mono ?_
              rintro e w11 ⟨F11, V11, rfl, hR11, k11⟩
              have rl11 := k11 _ _ _ rl10
              have rr11 := k11 _ _ _ rr10
              obtain ⟨ar, cr, rfl, err, -⟩ := rr11.parts
              have hS4 := store_run hR11 more 2 rg ar cr err hs3 (by omega)
              clear hS3 hR9 rl10 rr10 k11 err
              go_wp2_with fail
              refine hS4.mono ?_
              rintro e w12 ⟨F12, V12, rfl, hR12, k12⟩
              obtain ⟨g1, c1, e1, cc1⟩ := HC0.out _ _ _ _ _ kl (k12 _ _ _ rl11) hlf0 HKL.out
              obtain ⟨g2, c2, e2, cc2⟩ := HC0.out _ _ _ _ _ kr (k12 _ _ _ rr11) hrg0 HKR.out
              simp at e1 e2
              obtain ⟨rfl, rfl⟩ := e1
              obtain ⟨rfl, rfl⟩ := e2
              have HCC : Hid (∀ W, Below w12.heap.size w12 W → W.cell? ⟨g1, 0, none⟩ = some (.string kl) ∧ W.cell? ⟨g2, 0, none⟩ = some (.string kr)) := fun W hB =>
                ⟨(hB.cell (p := ⟨g1, 0, none⟩) (World.block_lt_of_cell? w12 _ cc1)).trans cc1, (hB.cell (p := ⟨g2, 0, none⟩) (World.block_lt_of_cell? w12 _ cc2)).trans cc2⟩
              have HFN : Hid (∀ W, Below w12.heap.size w12 W → TRun w0 w (W.alloc (.cells #[.string kl, .string nm, .string kr, .string nm1] 59)) s dk F F12 n V12 D (N + 100 * (d + 1 : Nat)) t root S3 ∧ Row (W.alloc (.cells #[.string kl, .string nm, .string kr, .string nm1] 59)) F12 w.heap.size (.slice (some ⟨W.heap.size, 0, none⟩) 2 2) [(kl, nm), (kr, nm1)]) := fun W hB => by
                have h9 := hR12.made hB
                have hB9 : Below W.heap.size W (W.alloc (.cells #[.string kl, .string nm, .string kr, .string nm1] 59)) := (Below.refl _ _).alloc (Nat.le_refl _) _
                exact ⟨(h9.made hB9).mono (by push_cast; omega), Row.new h9 (EOwn.of_new W _ [(kl, nm), (kr, nm1)] rfl (by unfold maxLen; simp))⟩
              obtain ⟨d1, d2⟩ := HCC.out w12.drew ((Below.refl _ _).drew)
              have hn1 := HNM.out w12.drew
              clear hS4 hR11 rl11 rr11 k12 hR12 cc1 cc2 HC0 HNM
              have z1 : (0 : Int) < (lf.length : Int) := by omega
              have z2 : (0 : Int) < (rg.length : Int) := by omega
              generalize lf.length = nlf at *
              generalize rg.length = nrg at *
              go_upto_region 21 with fail
              go_region_held3 (fun w' => w'.cell? ⟨g1, 0, none⟩ = some (.string kl) ∧ w'.cell? ⟨g2, 0, none⟩ = some (.string kr)) (go_keep) (first
                | (go_at_call 88; refine hn2.mono ?_; rintro e w14 ⟨rfl, hB14⟩
                   have hB24 : Below w12.heap.size w12 w14 := hB23.trans (hB14.mono hB23.size)
                   obtain ⟨d5, d6⟩ := HCC.out w14 hB24
                   have d56 : ∀ o, (w14.alloc o).cell? ⟨g1, 0, none⟩ = some (.string kl) ∧ (w14.alloc o).cell? ⟨g2, 0, none⟩ = some (.string kr) := fun o => HCC.out _ (hB24.alloc (by have := hB24.size; omega) o)
                   have HFF := Lib.hid (HFN.out w14 hB24))
                | (go_at_call 88; refine hn1.mono ?_; rintro e w13 ⟨rfl, hB13⟩
                   have hB23 : Below w12.heap.size w12 w13 := ((Below.refl _ w12).drew).trans hB13
                   obtain ⟨d3, d4⟩ := HCC.out w13 hB23
                   have hn2 := HNM1.out w13))
              all_goals
                go_wp2
                go_ret
                exact ⟨F12, V12, _, _, rfl, HFF.out.1, HFF.out.2⟩
  · rw [List.getElem?_eq_none (by omega)] at hp
    cases hp
theorem tput_any (key value : ByteArray) (hk : key.size ≤ 32) (hv : value.size ≤ 64) (D : Int → ByteArray) : ∀ d, PutOk w0 s dk t root n D key value d
  | 0 => fun w F V N S S' at_ ps h hp hd hN => by simp [putM] at hp
  | d + 1 => fun w F V N S S' at_ ps h hp hd hN => by
    simp only [putM, Option.bind_eq_some_iff] at hp
    obtain ⟨⟨kind, l⟩, hld, hp⟩ := hp
    simp only at hp
    have hfine := (loadM_ok h.shows hld).1
    by_cases hk1 : kind = 1
    · subst hk1
      rw [if_pos rfl] at hp
      exact tput_leaf key value hk hv d w F V N S S' at_ ps l h hld hp hd hN
    · rw [if_neg hk1] at hp
      have hk2 : kind = 2 := by rcases hfine.kind with h | h <;> omega
      subst hk2
      exact tput_branch key value hk hv d (tput_any key value hk hv D d) w F V N S S' at_ ps l h hld hp hd hN
end
end Go.Proofs.YtmgcaohpbaiiaaaGreatDoor
