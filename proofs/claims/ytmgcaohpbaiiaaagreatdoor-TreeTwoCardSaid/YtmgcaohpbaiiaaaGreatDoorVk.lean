/- found: the walk. -/
import Derived.Test.YtmgcaohpbaiiaaaGreatDoorVj
set_option linter.unusedSimpArgs false
set_option linter.unusedVariables false
namespace Go.Proofs.YtmgcaohpbaiiaaaGreatDoor
open Go.RowKit Go.Maps Go.Shelf
section
variable {w0 w W : World} {s dk t root B : Nat} {F : Nat → Prop} {n N : Int} {V D : Int → ByteArray} {S S1 : TS} {l : List Ent} {P : List Nat}
theorem FJ.at_ {wr : World} {F1 : Nat → Prop} {br g i cap : Nat} {T : List Nat} {a : Option Addr} {N : Int} (h : FJ w0 w wr s dk F F1 n V D N S br g T a cap i) {j : Nat} (hj : j < T.length) : ∃ gr, a = some ⟨gr, 0, none⟩ ∧ T.length ≤ cap ∧ wr.cell? ⟨gr, j, none⟩ = some (.int .i64 (T[j]'hj)) := by
  rcases h.row.2 with ⟨hv, h0⟩ | ⟨gr, cap', cur, hv, -, -, hle, -⟩
  · omega
  simp at hv
  obtain ⟨rfl, rfl⟩ := hv
  refine ⟨gr, rfl, hle, ?_⟩
  rw [h.row.cellAt j (by omega)]
  simp [zN, encZ, hj]
set_option maxHeartbeats 4000000 in
set_option maxRecDepth 100000 in
theorem gfound_any (h : GIn w0 w s dk F n V D N S) (hT : TreeL (jFirst n).toNat (spMany n) S root l P B) (hB : B ≤ 39000) (hN : N < 800000000) (h0 : w0.heap.size ≤ w.heap.size) (hsl : s < w.heap.size) (hc : (takenS (jFirst n).toNat (spMany n) S).length ≤ 2000) :
    Calls Tryz.prog 19 #[.pointer (some ⟨s, 0, none⟩), .int .i64 root] w fun e w' => ∃ F' d a1 c1 a2 c2, e = .returned (.agg #[.slice a1 l.length c1, .slice a2 P.length c2, .int .i64 ((d : Int) + 1), .bool true]) ∧ GRun w0 w w' s dk F F' n V D (N + 2 + 4 * (takenS (jFirst n).toNat (spMany n) S).length) S ∧
      Row w' F' w.heap.size (.slice a1 l.length c1) l ∧ w'.ownsRow w.heap.size 3 1 (.slice a2 P.length c2) P.length (P.map encN) ∧ ∀ b, (Value.slice a2 P.length c2).ownBlock = some b → ¬ F' b := by
  have hs := FJ.start h (by omega) _ rfl
  have hmk := make_texts (w.alloc zeroFound)
  have hfm := first_nat h.bd.1 h.bd.2
  have HTK : Hid (∀ i (hi : i < (takenS (jFirst n).toNat (spMany n) S).length), okM (jFirst n).toNat (spMany n) S (takenS (jFirst n).toNat (spMany n) S)[i] = true ∧ (takenS (jFirst n).toNat (spMany n) S)[i] < 2048) := fun i hi => by
    have h1 := mem_takenS.1 (List.getElem_mem hi)
    have h2 := okM_bd h1
    exact ⟨h1, by omega⟩
  have HT := Lib.hid hT
  have HSH := Lib.hid h.shows
  have HIN : Hid (∀ k ∈ P, k ∈ takenS (jFirst n).toNat (spMany n) S) := fun k hk => mem_takenS.2 (hT.nd.2.1 k hk)
  clear h hT
  generalize takenS (jFirst n).toNat (spMany n) S = T at *
  obtain ⟨m, HM⟩ : ∃ m, Hid (T.length = m) := ⟨_, Lib.hid rfl⟩
  rw [HM.out] at hs hc ⊢
  go_enter Tryz.func19, Tryz.ntmps19
  go_wp2_with fail
  refine hs.mono ?_
  rintro e w2 ⟨F1, a, cap, rfl, hj⟩
  have HJ := Lib.hid hj
  clear hs hmk hj
  go_wp2
  go_loopw [15] (fun v wr => ∃ (i : Nat) (F1 : Nat → Prop), v = .int .i64 i ∧ i ≤ m ∧ Hid (FJ w0 w wr s dk F F1 n V D (N + 2 + 4 * (i : Int)) S w.heap.size (w.heap.size + 1) T a cap i)) (fun v _ => m - (intOf v).toNat)
  case atStart => exact ⟨0, F1, rfl, Nat.zero_le _, by simpa using HJ⟩
  case round =>
    obtain ⟨i, F2, rfl, hi, HQ⟩ := hrel
    clear HJ
    by_cases hlt : i < m
    · have hlt' : i < T.length := by rw [HM.out]; exact hlt
      obtain ⟨gr, rfl, hmc, hc0⟩ := HQ.out.at_ hlt'
      rw [HM.out] at hmc
      obtain ⟨hok, h2048⟩ := HTK.out i hlt'
      have hget := HQ.out.get hlt' hok (by omega)
      have HPUT : Hid (∀ wq F3, FJ w0 w wq s dk F F3 n V D (N + 2 + 4 * (i : Int) + 4) S w.heap.size (w.heap.size + 1) T (some ⟨gr, 0, none⟩) cap i → (∃ x, wq.cell? ⟨w.heap.size + 1, T[i], none⟩ = some x) ∧ wq.frozen? ⟨w.heap.size + 1, T[i], none⟩ = false ∧ wq.cell? ⟨gr, i, none⟩ = some (.int .i64 (T[i] : Nat)) ∧ FJ w0 w (wq.setCell ⟨w.heap.size + 1, T[i], none⟩ (.string (V T[i]))) s dk F F3 n V D (N + 2 + 4 * ((i + 1 : Nat) : Int)) S w.heap.size (w.heap.size + 1) T (some ⟨gr, 0, none⟩) cap (i + 1)) := fun wq F3 hq => by
        obtain ⟨p1, p2, p3⟩ := hq.put hlt' h2048 h0 (by omega) (by omega) (by omega)
        obtain ⟨gr', e', -, q3⟩ := hq.at_ hlt'
        simp at e'
        subst e'
        rw [show N + 2 + 4 * ((i + 1 : Nat) : Int) = N + 2 + 4 * (i : Int) + 4 by push_cast; omega]
        exact ⟨p1, p2, q3, p3⟩
      clear HQ HTK hok
      generalize V T[i] = tx at *
      generalize T[i] = pgi at *
      have z1 : (m : Int) ≤ (cap : Int) := by omega
      have z2 : (pgi : Int) < 2048 := by omega
      go_wp2_with fail
      refine hget.mono ?_
      rintro e w3 ⟨F3, rfl, hq⟩
      obtain ⟨⟨x, p1⟩, p2, p3, hq2⟩ := HPUT.out w3 F3 hq
      have HQ2 := Lib.hid hq2
      clear hget HPUT hq hq2
      go_wp2
      go_roundw
      case rel => exact ⟨i + 1, F3, by go_num, by omega, HQ2⟩
      case measure => simp [intOf]; omega
    · obtain rfl : m = i := by omega
      have J := HQ.out
      obtain ⟨cur, t1, t2, t3⟩ := J.txt
      have hpr : PgRow S wr (w.heap.size + 1) P := fun k hk => by
        have hkT := HIN.out k hk
        obtain ⟨j, hj, rfl⟩ := List.getElem_of_mem hkT
        refine ⟨(HTK.out j hj).2, fun kind q e => ?_⟩
        rw [cell_of t1, ← (HSH.out.page _ _ _ (loadM_some e).1).2.1]
        exact t3 _ (by rw [← HM.out, List.take_length]; exact hkT)
      have hlk := look_tree HT.out (by omega) hB (w.heap.size + 1) wr (lt_of t1) hpr
      have HFIN : Hid (∀ w5 W4 u v, Below wr.heap.size wr w5 → EOwn w5 wr.heap.size u l → w5.ownsRow wr.heap.size 3 1 v P.length (P.map encN) → Upd (fun b => b = w.heap.size) w5 W4 → GRun w0 w W4 s dk F F2 n V D (N + 2 + 4 * (m : Int)) S ∧ Row W4 F2 w.heap.size u l ∧ W4.ownsRow w.heap.size 3 1 v P.length (P.map encN) ∧ ∀ b, v.ownBlock = some b → ¬ F2 b) := fun w5 W4 u v hB5 he1 he2 hu => by
        have hsz := J.run.size
        have hbr := lt_of J.res
        refine ⟨(J.run.made hB5).turnG h0 hu fun b hb => ?_, ⟨(he1.keep fun b hb => hu.block b (he1.lt b hb).2 (by have := (he1.lt b hb).1; omega)).base hsz, fun b hb hf => ?_⟩, ownsRow_base' (ownsRow_keep he2 fun b hb => hu.block b (he2.lt b hb).2 (by have := (he2.lt b hb).1; omega)) hsz, fun b hb hf => ?_⟩
        · have e : b = w.heap.size := hb
          rw [e]
          exact ⟨Nat.le_refl _, J.out.1, by omega⟩
        · have h1 := (he1.lt b hb).1
          have h2 := J.run.gin.lt b hf
          omega
        · have h1 := (he2.lt b hb).1
          have h2 := J.run.gin.lt b hf
          omega
      have HRES : Hid (wr.heap[w.heap.size]? = some zeroFound) := J.res
      clear HQ J t1 t2 t3 hpr HTK HIN HT HSH
      go_wp2_with fail
      refine hlk.mono ?_
      rintro e w5 ⟨d, a1, c1, a2, c2, rfl, he1, he2, hB5⟩
      have hres : w5.heap[w.heap.size]? = some zeroFound := (hB5.block _ (lt_of HRES.out)).trans HRES.out
      have r0 : w5.cell? ⟨w.heap.size, 0, none⟩ = some (.slice none 0 0) := by rw [cell_of hres]; rfl
      have r1 : w5.cell? ⟨w.heap.size, 1, none⟩ = some (.slice none 0 0) := by rw [cell_of hres]; rfl
      have r2 : w5.cell? ⟨w.heap.size, 2, none⟩ = some (.int .i64 0) := by rw [cell_of hres]; rfl
      have r3 : w5.cell? ⟨w.heap.size, 3, none⟩ = some (.bool false) := by rw [cell_of hres]; rfl
      have g0 : w5.frozen? ⟨w.heap.size, 0, none⟩ = false := frozen_of hres 0
      have g1 : w5.frozen? ⟨w.heap.size, 1, none⟩ = false := frozen_of hres 1
      have g2 : w5.frozen? ⟨w.heap.size, 2, none⟩ = false := frozen_of hres 2
      have g3 : w5.frozen? ⟨w.heap.size, 3, none⟩ = false := frozen_of hres 3
      have HH4 := Lib.hid (found_set hres (u := .slice a1 l.length c1) (v := .slice a2 P.length c2) (d := (d : Int) + 1))
      have HF5 := Lib.hid (HFIN.out _ _ _ _ hB5 he1 he2 (found_upd w5 w.heap.size (.slice a1 l.length c1) (.slice a2 P.length c2) ((d : Int) + 1)))
      clear hlk he1 he2 hB5 hres HFIN HRES
      go_wp2
      clear r0 r1 r2 r3 g0 g1 g2 g3
      generalize (((w5.setCell ⟨w.heap.size, 0, none⟩ (.slice a1 l.length c1)).setCell ⟨w.heap.size, 1, none⟩ (.slice a2 P.length c2)).setCell ⟨w.heap.size, 2, none⟩ (.int .i64 ((d : Int) + 1))).setCell ⟨w.heap.size, 3, none⟩ (.bool true) = W4 at *
      have q0 : W4.cell? ⟨w.heap.size, 0, none⟩ = some (.slice a1 l.length c1) := by rw [cell_of HH4.out]; rfl
      have q1 : W4.cell? ⟨w.heap.size, 1, none⟩ = some (.slice a2 P.length c2) := by rw [cell_of HH4.out]; rfl
      have q2 : W4.cell? ⟨w.heap.size, 2, none⟩ = some (.int .i64 ((d : Int) + 1)) := by rw [cell_of HH4.out]; rfl
      have q3 : W4.cell? ⟨w.heap.size, 3, none⟩ = some (.bool true) := by rw [cell_of HH4.out]; rfl
      obtain ⟨t1, t2, t3, t4⟩ := HF5.out
      simp [bodyPost, results, Tryz.results19, go_sem, q0, q1, q2, q3]
      exact ⟨F2, d, a1, c1, a2, c2, ⟨⟨rfl, rfl⟩, ⟨rfl, rfl⟩, rfl⟩, t1, t2, t3, t4⟩
theorem found_any (h : TIn w0 w s dk F n V D N t root S) (hT : TreeL (jFirst n).toNat (spMany n) S root l P B) (hB : B ≤ 39000) (hN : N < 800000000) (h0 : w0.heap.size ≤ w.heap.size) (hsl : s < w.heap.size) (hc : (takenS (jFirst n).toNat (spMany n) S).length ≤ 2000) :
    Calls Tryz.prog 19 #[.pointer (some ⟨s, 0, none⟩), .int .i64 root] w fun e w' => ∃ F' d a1 c1 a2 c2, e = .returned (.agg #[.slice a1 l.length c1, .slice a2 P.length c2, .int .i64 ((d : Int) + 1), .bool true]) ∧ TRun w0 w w' s dk F F' n V D (N + 2 + 4 * (takenS (jFirst n).toNat (spMany n) S).length) t root S ∧
      Row w' F' w.heap.size (.slice a1 l.length c1) l ∧ w'.ownsRow w.heap.size 3 1 (.slice a2 P.length c2) P.length (P.map encN) ∧ ∀ b, (Value.slice a2 P.length c2).ownBlock = some b → ¬ F' b := by
  refine (gfound_any h.g hT hB hN h0 hsl hc).mono ?_
  rintro e w' ⟨F', d, a1, c1, a2, c2, he, hr, hx⟩
  exact ⟨F', d, a1, c1, a2, c2, he, hr.tr h.at_, hx⟩
end
end Go.Proofs.YtmgcaohpbaiiaaaGreatDoor
