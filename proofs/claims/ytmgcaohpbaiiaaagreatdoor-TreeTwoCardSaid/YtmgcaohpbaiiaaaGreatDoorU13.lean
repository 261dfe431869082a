/- Tree.Delete, Tree.Get, at all depths · Tree.Get, at all depths · A tree by its entries; Put of what may not be put. -/
import Derived.Test.YtmgcaohpbaiiaaaGreatDoorU12
import Derived.Test.YtmgcaohpbaiiaaaGreatDoorU6
import Derived.Deep.RegionHeld3
import Derived.Test.YtmgcaohpbaiiaaaGreatDoorU9
namespace Go.Proofs.YtmgcaohpbaiiaaaGreatDoor
/-! TDel -/
section
set_option linter.unusedSimpArgs false
set_option linter.unusedVariables false
open Go.RowKit Go.Maps Go.Shelf

section
variable {w0 w W W1 : World} {s dk t root B : Nat} {F F' F1 : Nat → Prop} {n N M : Int} {V D V1 : Int → ByteArray} {S S1 : TS} {v : Value} {l : List Ent}
theorem colM_zero {f m root : Nat} {S : TS} : colM f m root 0 S = none := rfl
set_option maxHeartbeats 4000000 in
set_option maxRecDepth 100000 in
theorem tdel_any (h : TIn w0 w s dk F n V D N t root S) (key : ByteArray) (ok : Bool) (hd : delM (jFirst n).toNat (spMany n) root key S = some (S1, ok)) (hN : N < 1000000000) :
    Calls Tryz.prog 16 #[.pointer (some ⟨t, 0, none⟩), .string key] w fun e w' => ∃ F' V', e = .returned (.tuple #[.bool ok, .int .i64 0]) ∧ TRun w0 w w' s dk F F' n V' D (N + 8000) t root S1 := by
  have hb0 := h.sin.below.size
  have hsl := h.sin.slt
  have htl := lt_of h.at_.obj
  have hbd := h.bd
  have hnf : ¬ F w.heap.size := fun hf => by have := h.lt _ hf; omega
  have hB1 : Below w.heap.size w (w.alloc (.cells #[.int .i64 0] 26)) := (Below.refl _ w).alloc (Nat.le_refl _) _
  have h1 := h.made hB1
  obtain ⟨c0, c1⟩ := h1.cell
  unfold delM at hd
  simp only [Option.bind_eq_some_iff] at hd
  obtain ⟨⟨S2, k, ok2⟩, htk, hd⟩ := hd
  simp only at hd
  have hT := ttake_any (w0 := w0) (s := s) (dk := dk) (t := t) (root := root) (n := n) key D 66 _ F V N S S2 root k ok2 h1 htk (by omega) (by omega)
  have HE : Hid (∀ w3 F3 V3 S3, TRun w0 (w.alloc (.cells #[.int .i64 0] 26)) w3 s dk F F3 n V3 D (N + 8000) t root S3 → w3.cell? ⟨w.heap.size, 0, none⟩ = some (.int .i64 0) ∧ w3.frozen? ⟨w.heap.size, 0, none⟩ = false ∧ TRun w0 w (w3.setCell ⟨w.heap.size, 0, none⟩ (.int .i64 0)) s dk F F3 n V3 D (N + 8000) t root S3 ∧ (w3.setCell ⟨w.heap.size, 0, none⟩ (.int .i64 0)).cell? ⟨w.heap.size, 0, none⟩ = some (.int .i64 0)) := fun w3 F3 V3 S3 hr => by
    obtain ⟨b1, b2⟩ := hr.stays (heap_alloc_new' w _) hnf
    have h3 := (hr.drop hB1).cell hb0 (Nat.le_refl _) b2 (by omega) (by omega) 0 (.int .i64 0)
    exact ⟨by rw [cell_of b1]; rfl, frozen_of b1 0, h3, by rw [cell_of (heap_setCell_same b1 0 _)]; rfl⟩
  clear h h1 hB1 htk
  cases ok2 with
  | false =>
    simp only [Bool.false_eq_true, if_false, Option.some.injEq, Prod.mk.injEq] at hd
    obtain ⟨rfl, rfl⟩ := hd
    go_enter_defers Tryz.func16, Tryz.ntmps16
    go_wp2_with fail
    refine hT.mono ?_
    rintro e w3 ⟨F3, V3, rfl, hr3⟩
    obtain ⟨c3, f3, h4, c4⟩ := HE.out w3 F3 V3 S2 (hr3.mono (by omega))
    have H4 := Lib.hid h4
    clear hT HE hr3 h4
    go_wp2_with fail
    go_loopw [8] (fun v wr => v = .int .i64 0 ∧ wr = w3) (fun _ _ => 0)
    case atStart => exact ⟨rfl, rfl⟩
    case round =>
      obtain ⟨rfl, rfl⟩ := hrel
      go_wp2
      generalize wr.setCell ⟨w.heap.size, 0, none⟩ (.int .i64 0) = w6 at *
      refine leaves_cons (f := 27) (args := #[.pointer (some ⟨w.heap.size, 0, none⟩)]) (by simp) (by simp [go_sem]) ?_
      refine (settle_idle ⟨w.heap.size, 0, none⟩ _).mono ?_
      rintro e u' w'' ⟨rfl, rfl, rfl⟩
      have h7 := H4.out
      clear H4
      simp [Leaves, settle, results, Tryz.results16, go_sem, c4]
      exact ⟨F3, V3, h7⟩
  | true =>
    simp only [if_true, Option.map_eq_some_iff, Prod.mk.injEq] at hd
    obtain ⟨S3, hcol, rfl, rfl⟩ := hd
    -- one round
    have HRD : Hid (∀ (w3 : World) F3 V3 (j : Nat) Sx, j < 66 → colM (jFirst n).toNat (spMany n) root (66 - j) Sx = some S3 → TRun w0 (w.alloc (.cells #[.int .i64 0] 26)) w3 s dk F F3 n V3 D (N + 6600 + 20 * (j : Int)) t root Sx →
        w3.cell? ⟨t, 1, none⟩ = some (.int .i64 root) ∧ ∃ kind q, Calls Tryz.prog 39 #[.pointer (some ⟨t, 0, none⟩), .int .i64 root] w3 fun e w' => ∃ F1 v, e = .returned (.tuple #[.int .i64 (kind : Nat), v]) ∧ TRun w0 (w.alloc (.cells #[.int .i64 0] 26)) w' s dk F F1 n V3 D (N + 6600 + 20 * (j : Int) + 4) t root Sx ∧
          (((kind = 1 ∨ (kind = 2 ∧ (q : Nat) ≠ 1)) ∧ Sx = S3 ∧ (∃ ao c, v = .slice ao q c)) ∨
            (kind = 2 ∧ q = 1 ∧ j + 1 < 66 ∧ ∃ g c x y py kc nc Sy, v = .slice (some ⟨g, 0, none⟩) 1 c ∧ 1 ≤ c ∧ w'.cell? ⟨g, 0, none⟩ = some (.string x) ∧ w'.cell? ⟨g, 1, none⟩ = some (.string y) ∧ (∀ W, Calls Tryz.prog 41 #[.agg #[.string x, .string y]] W fun e w' => e = .returned (.int .i64 (py : Nat)) ∧ Below W.heap.size W w') ∧
              (∀ W, Below w'.heap.size w' W → Calls Tryz.prog 39 #[.pointer (some ⟨t, 0, none⟩), .int .i64 py] W fun e w2 => ∃ ac cc, e = .returned (.tuple #[.int .i64 (kc : Nat), .slice ac (nc : Nat) cc]) ∧ w2.cell? ⟨t, 1, none⟩ = some (.int .i64 root) ∧
                Calls Tryz.prog 29 #[.pointer (some ⟨t, 0, none⟩), .int .i64 root, .int .i64 kc, .slice ac nc cc] w2 fun e w3 => e = .returned (.tuple #[]) ∧ w3.cell? ⟨t, 0, none⟩ = some (.pointer (some ⟨s, 0, none⟩)) ∧
                  Calls Tryz.prog 45 #[.pointer (some ⟨s, 0, none⟩), .int .i64 py] w3 fun e w4 => e = .returned (.int .i64 0) ∧ ∃ F4 V4, TRun w0 (w.alloc (.cells #[.int .i64 0] 26)) w4 s dk F F4 n V4 D (N + 6600 + 20 * ((j : Int) + 1)) t root Sy) ∧
              colM (jFirst n).toNat (spMany n) root (66 - (j + 1)) Sy = some S3))) := fun w3 F3 V3 j Sx hj hc hr => by
      refine ⟨hr.tin.cell.2, ?_⟩
      obtain ⟨fu, hfu⟩ : ∃ fu, 66 - j = fu + 1 := ⟨65 - j, by omega⟩
      rw [hfu] at hc
      rw [colM] at hc
      simp only [Option.bind_eq_some_iff] at hc
      obtain ⟨⟨kind, l⟩, hld, hc⟩ := hc
      simp only at hc
      have hfine := (loadM_ok hr.tin.shows hld).1
      refine ⟨kind, l.length, (load_run hr root kind l hld (by omega)).mono ?_⟩
      rintro e w4 ⟨F4, v, he, hr4, row4, -⟩
      refine ⟨F4, v, he, hr4, ?_⟩
      by_cases hk : kind = 1 ∨ l.length ≠ 1
      · rw [if_pos hk] at hc
        simp only [Option.some.injEq] at hc
        obtain ⟨ao, c, e1, -⟩ := row4.parts
        refine .inl ⟨?_, hc, ao, c, e1⟩
        rcases hfine.kind with h | h
        · exact .inl h
        · rcases hk with h2 | h2
          · omega
          · exact .inr ⟨h, h2⟩
      · rw [if_neg hk] at hc
        have hk2 : kind = 2 := by rcases hfine.kind with h | h <;> omega
        have hl1 : l.length = 1 := by omega
        obtain ⟨q, rfl⟩ : ∃ q, l = [q] := List.length_eq_one_iff.1 hl1
        simp only at hc
        split at hc
        · cases hc
        rename_i hsz
        simp only [Option.bind_eq_some_iff] at hc
        obtain ⟨⟨kc, lc⟩, hlc, S4, hst, S5, hrl, hc⟩ := hc
        simp only at hst
        obtain ⟨ao, c, e1, er, -, -, hcc⟩ := row4.parts
        obtain ⟨g, off, rfl, d0, d1⟩ := er.at (i := 0) (by simp)
        subst e1
        obtain ⟨g', cur, e2, -⟩ := row4.own.block
        simp at e2
        obtain ⟨rfl, rfl⟩ := e2
        have hqz := (hfine.all q (by simp)).2
        have hfu0 : fu ≠ 0 := fun e => by subst e; rw [colM_zero] at hc; cases hc
        refine .inr ⟨hk2, hl1, by omega, g, c, q.1, q.2, pgN q.2, kc, lc.length, S5, rfl, (by simpa using hcc), (by simpa using d0), (by simpa using d1), fun W => page_of q.1 q.2 W (by omega) (by omega), fun W hB => ?_, (by rw [show 66 - (j + 1) = fu by omega]; exact hc)⟩
        refine (load_run (hr4.made hB) (pgN q.2) kc lc hlc (by omega)).mono ?_
        rintro e w5 ⟨F5, v5, he5, hr5, row5, -⟩
        obtain ⟨ac, cc, rfl, er5, -⟩ := row5.parts
        refine ⟨ac, cc, he5, hr5.tin.cell.2, (store_run hr5 root kc lc ac cc er5 hst (by omega)).mono ?_⟩
        rintro e w6 ⟨F6, V6, he6, hr6, -⟩
        refine ⟨he6, hr6.tin.cell.1, (rel_run hr6 (pgN q.2) hrl (by omega)).mono ?_⟩
        rintro e w7 ⟨he7, F7, V7, hr7, -⟩
        exact ⟨he7, F7, V7, hr7.mono (by omega)⟩
    have HM : Hid (∀ W, Calls Tryz.prog 44 #[.int .i64 0] W fun e w' => e = .returned (.tuple #[]) ∧ W = w') := fun W => must_ok W
    have HDN : Hid (∀ (j : Nat), j + 1 < 66 → ∀ W, Calls Tryz.prog 38 #[.int .i64 (j : Nat)] W fun e w' => e = .returned (.int .i64 ((j : Int) + 1)) ∧ W = w') := fun j hj W => down_any j W (by omega) (by omega)
    have HCOL := Lib.hid hcol
    clear hcol
    go_enter_defers Tryz.func16, Tryz.ntmps16
    go_wp2_with fail
    refine hT.mono ?_
    rintro e w3 ⟨F3, V3, rfl, hr3⟩
    have HR3 := Lib.hid hr3
    clear hT hr3
    go_wp2_with fail
    go_loopw [8] (fun v wr => ∃ (j : Nat) (Sx : TS) (Fx : Nat → Prop) (Vx : Int → ByteArray), v = .int .i64 (j : Nat) ∧ j < 66 ∧ Hid (colM (jFirst n).toNat (spMany n) root (66 - j) Sx = some S3) ∧ Hid (TRun w0 (w.alloc (.cells #[.int .i64 0] 26)) wr s dk F Fx n Vx D (N + 6600 + 20 * (j : Int)) t root Sx)) (fun v _ => 66 - (intOf v).toNat)
    case atStart => exact ⟨0, S2, F3, V3, rfl, by omega, HCOL, Lib.hid (HR3.out.mono (by omega))⟩
    case round =>
      obtain ⟨j, Sx, Fx, Vx, rfl, hj, hc, hr⟩ := hrel
      obtain ⟨t1, kind, q, hld⟩ := HRD.out wr Fx Vx j Sx hj hc.out hr.out
      clear HR3 HCOL hc hr
      go_wp2_with fail
      refine hld.mono ?_
      rintro e w4 ⟨F4, v4, rfl, hr4, hcase⟩
      clear hld
      rcases hcase with ⟨hk, rfl, ao, c, rfl⟩ | ⟨rfl, rfl, hj2, g, c, x, y, py, kc, nc, Sy, rfl, hc1, d0, d1, hpg, hrest, hcol⟩
      · obtain ⟨c5, f5, h6, c6⟩ := HE.out w4 F4 Vx Sx (hr4.mono (by omega))
        have H6 := Lib.hid h6
        clear HE hr4 h6 HRD
        rcases hk with rfl | ⟨rfl, hq⟩
        · go_wp2
          generalize w4.setCell ⟨w.heap.size, 0, none⟩ (.int .i64 0) = w6 at *
          refine leaves_cons (f := 27) (args := #[.pointer (some ⟨w.heap.size, 0, none⟩)]) (by simp) (by simp [go_sem]) ?_
          refine (settle_idle ⟨w.heap.size, 0, none⟩ _).mono ?_
          rintro e u' w'' ⟨rfl, rfl, rfl⟩
          have h7 := H6.out
          clear H6
          simp [Leaves, settle, results, Tryz.results16, go_sem, c6]
          exact ⟨F4, Vx, h7⟩
        · have hq' : ¬ ((q : Int) = 1) := by omega
          go_wp2
          generalize w4.setCell ⟨w.heap.size, 0, none⟩ (.int .i64 0) = w6 at *
          refine leaves_cons (f := 27) (args := #[.pointer (some ⟨w.heap.size, 0, none⟩)]) (by simp) (by simp [go_sem]) ?_
          refine (settle_idle ⟨w.heap.size, 0, none⟩ _).mono ?_
          rintro e u' w'' ⟨rfl, rfl, rfl⟩
          have h7 := H6.out
          clear H6
          simp [Leaves, settle, results, Tryz.results16, go_sem, c6]
          exact ⟨F4, Vx, h7⟩
      · have hpg4 := hpg w4
        have HREST := Lib.hid hrest
        have HC := Lib.hid hcol
        have hdn := HDN.out j hj2
        clear hrest hcol hpg hr4
        go_wp2_with fail
        refine hpg4.mono ?_
        rintro e w5 ⟨rfl, hB5⟩
        have hl5 := HREST.out w5 hB5
        clear hpg4 HREST d0 d1
        go_wp2_with fail
        refine hl5.mono ?_
        rintro e w6 ⟨ac, cc, rfl, t6, hst⟩
        clear hl5
        go_wp2_with fail
        refine hst.mono ?_
        rintro e w7 ⟨rfl, t7, hrl⟩
        clear hst
        go_wp2_with fail
        refine hrl.mono ?_
        rintro e w8 ⟨rfl, F8, V8, hr8⟩
        have hm := HM.out w8
        have HR8 := Lib.hid hr8
        have hdn8 := hdn w8
        clear hrl hr8
        go_wp2_with fail
        refine hm.mono ?_
        rintro e w9 ⟨rfl, rfl⟩
        clear hm
        go_wp2_with fail
        refine hdn8.mono ?_
        rintro e w10 ⟨rfl, rfl⟩
        clear hdn8 hdn
        go_wp2
        go_roundw
        case rel => exact ⟨j + 1, Sy, F8, V8, by go_num, hj2, HC, Lib.hid (HR8.out.mono (by push_cast; omega))⟩
        case measure => simp [intOf]; omega
end
end
/-! TGet -/
section
set_option linter.unusedSimpArgs false
set_option linter.unusedVariables false
open Go.RowKit Go.Maps Go.Shelf

section
variable {w0 w W W1 : World} {s dk t root B : Nat} {F F' F1 : Nat → Prop} {n N M : Int} {V D V1 : Int → ByteArray} {S S1 : TS} {v : Value} {l : List Ent}
theorem getM_zero {key : ByteArray} {S : TS} {a : Nat} : getM key 0 S a = none := rfl
def valE (r : Option ByteArray) : Value := .tuple #[.string (r.getD ⟨#[]⟩), .bool r.isSome, .int .i64 0]
set_option maxHeartbeats 4000000 in
set_option maxRecDepth 100000 in
theorem tget_any (h : TIn w0 w s dk F n V D N t root S) (key : ByteArray) (r : Option ByteArray) (hg : getM key 66 S root = some r) (hN : N < 1000000000) :
    Calls Tryz.prog 15 #[.pointer (some ⟨t, 0, none⟩), .string key] w fun e w' => ∃ F' V', e = .returned (valE r) ∧ TRun w0 w w' s dk F F' n V' D (N + 300) t root S := by
  have hb0 := h.sin.below.size
  have hsl := h.sin.slt
  have htl := lt_of h.at_.obj
  have hnf : ¬ F w.heap.size := fun hf => by have := h.lt _ hf; omega
  have hB1 : Below w.heap.size w (w.alloc (.cells #[.int .i64 0] 26)) := (Below.refl _ w).alloc (Nat.le_refl _) _
  have h1 := h.made hB1
  obtain ⟨c0, c1⟩ := h1.cell
  have HR0 : Hid (TRun w0 (w.alloc (.cells #[.int .i64 0] 26)) (w.alloc (.cells #[.int .i64 0] 26)) s dk F F n V D N t root S) := h1.run
  have HE : Hid (∀ w3 F3 V3 S3, TRun w0 (w.alloc (.cells #[.int .i64 0] 26)) w3 s dk F F3 n V3 D (N + 300) t root S3 → w3.cell? ⟨w.heap.size, 0, none⟩ = some (.int .i64 0) ∧ w3.frozen? ⟨w.heap.size, 0, none⟩ = false ∧ TRun w0 w (w3.setCell ⟨w.heap.size, 0, none⟩ (.int .i64 0)) s dk F F3 n V3 D (N + 300) t root S3 ∧ (w3.setCell ⟨w.heap.size, 0, none⟩ (.int .i64 0)).cell? ⟨w.heap.size, 0, none⟩ = some (.int .i64 0)) := fun w3 F3 V3 S3 hr => by
    obtain ⟨b1, b2⟩ := hr.stays (heap_alloc_new' w _) hnf
    have h3 := (hr.drop hB1).cell hb0 (Nat.le_refl _) b2 (by omega) (by omega) 0 (.int .i64 0)
    exact ⟨by rw [cell_of b1]; rfl, frozen_of b1 0, h3, by rw [cell_of (heap_setCell_same b1 0 _)]; rfl⟩
  -- one round
  have HRD : Hid (∀ (w3 : World) F3 V3 (j a : Nat), j < 66 → getM key (66 - j) S a = some r → TRun w0 (w.alloc (.cells #[.int .i64 0] 26)) w3 s dk F F3 n V3 D (N + 4 * (j : Int)) t root S →
      ∃ kind q, Calls Tryz.prog 39 #[.pointer (some ⟨t, 0, none⟩), .int .i64 a] w3 fun e w' => ∃ F1 ao c, e = .returned (.tuple #[.int .i64 (kind : Nat), .slice ao (q : Nat) c]) ∧
        ((kind = 1 ∧ ∃ ix hb, Calls Tryz.prog 40 #[.slice ao q c, .string key] w' fun e w2 => e = .returned (.tuple #[.int .i64 (ix : Nat), .bool hb]) ∧ TRun w0 (w.alloc (.cells #[.int .i64 0] 26)) w2 s dk F F1 n V3 D (N + 300) t root S ∧
            ((hb = false ∧ r = none) ∨ (hb = true ∧ ix < q ∧ q ≤ c ∧ c ≤ 9223372036854775807 ∧ ∃ g y, ao = some ⟨g, 0, none⟩ ∧ r = some y ∧ w2.cell? ⟨g, ix * 2 + 1, none⟩ = some (.string y)))) ∨
          (kind = 2 ∧ j + 1 < 66 ∧ ∃ ix, Calls Tryz.prog 42 #[.slice ao q c, .string key] w' fun e w2 => e = .returned (.int .i64 (ix : Nat)) ∧ ix < q ∧ q ≤ c ∧ ∃ g x y py, ao = some ⟨g, 0, none⟩ ∧ w2.cell? ⟨g, ix * 2, none⟩ = some (.string x) ∧ w2.cell? ⟨g, ix * 2 + 1, none⟩ = some (.string y) ∧
              Calls Tryz.prog 41 #[.agg #[.string x, .string y]] w2 fun e w3 => e = .returned (.int .i64 (py : Nat)) ∧ getM key (66 - (j + 1)) S py = some r ∧ TRun w0 (w.alloc (.cells #[.int .i64 0] 26)) w3 s dk F F1 n V3 D (N + 4 * ((j : Int) + 1)) t root S))) := fun w3 F3 V3 j a hj hc hr => by
    obtain ⟨fu, hfu⟩ : ∃ fu, 66 - j = fu + 1 := ⟨65 - j, by omega⟩
    rw [hfu, getM] at hc
    simp only [Option.bind_eq_some_iff] at hc
    obtain ⟨⟨kind, l⟩, hld, hc⟩ := hc
    simp only at hc
    have hfine := (loadM_ok hr.tin.shows hld).1
    have hlen := hfine.len
    refine ⟨kind, l.length, (load_run hr a kind l hld (by omega)).mono ?_⟩
    rintro e w4 ⟨F4, v, he, hr4, row4, -⟩
    obtain ⟨ao, c, rfl, er, -, -, hcc⟩ := row4.parts
    have hblk : ∀ a, ao = some a → ∃ g, ao = some ⟨g, 0, none⟩ := fun a e => by
      subst e
      obtain ⟨g', cur, e2, -⟩ := row4.own.block
      exact ⟨g', by rw [e2]⟩
    have hat : ∀ (W : World), Below w4.heap.size w4 W → ∀ i (hi : i < l.length), ∃ g, ao = some ⟨g, 0, none⟩ ∧ W.cell? ⟨g, i * 2, none⟩ = some (.string l[i].1) ∧ W.cell? ⟨g, i * 2 + 1, none⟩ = some (.string l[i].2) := fun W hB i hi => by
      obtain ⟨g, off, e, d0, d1⟩ := (er.made hB).at hi
      obtain ⟨g2, e2⟩ := hblk _ e
      rw [e] at e2
      simp at e2
      obtain ⟨rfl, rfl⟩ := e2
      rw [Nat.zero_add] at d0 d1
      exact ⟨g, e, d0, d1⟩
    refine ⟨F4, ao, c, he, ?_⟩
    by_cases hk : kind = 1
    · rw [if_pos hk] at hc
      simp only [Option.some.injEq] at hc
      refine .inl ⟨hk, lIx l key, lHas l key, (find_any w4 ao c l key er hfine.asc (by omega)).mono ?_⟩
      rintro e w5 ⟨he5, hB5⟩
      refine ⟨he5, (hr4.made hB5).mono (by omega), ?_⟩
      cases hb : lHas l key with
      | false =>
        rw [hb] at hc
        exact .inl ⟨rfl, by simpa using hc.symm⟩
      | true =>
        rw [hb] at hc
        obtain ⟨hi, -⟩ := lHas_at hb
        obtain ⟨g, e, -, d1⟩ := hat w5 hB5 _ hi
        refine .inr ⟨rfl, hi, hcc, ?_, g, l[lIx l key].2, e, ?_, d1⟩
        · rcases row4.own.2 with ⟨hv, h0⟩ | ⟨g, cap, cur, hv, hb, hg, hn, hm, _⟩
          · rw [e] at hv; simp at hv
          · simp at hv
            have : maxLen = maxLen := rfl
            unfold maxLen at hm
            omega
        · rw [← hc, List.getElem?_eq_getElem hi]; rfl
    · rw [if_neg hk] at hc
      have hk2 : kind = 2 := by rcases hfine.kind with h | h <;> omega
      by_cases hix : cIx l key < l.length
      case neg => rw [List.getElem?_eq_none (by omega)] at hc; cases hc
      rw [List.getElem?_eq_getElem hix] at hc
      simp only at hc
      split at hc
      · cases hc
      rename_i hsz
      have hfu0 : fu ≠ 0 := fun e => by subst e; rw [getM_zero] at hc; cases hc
      have hqz := (hfine.all _ (List.getElem_mem hix)).2
      refine .inr ⟨hk2, by omega, cIx l key, (child_any w4 ao c l key er hfine.asc (by omega)).mono ?_⟩
      rintro e w5 ⟨he5, hB5⟩
      obtain ⟨g, e, d0, d1⟩ := hat w5 hB5 _ hix
      refine ⟨he5, hix, hcc, g, _, _, pgN l[cIx l key].2, e, d0, d1, (page_of _ _ w5 (by omega) (by omega)).mono ?_⟩
      rintro e w6 ⟨he6, hB6⟩
      exact ⟨he6, (by rw [show 66 - (j + 1) = fu by omega]; exact hc), ((hr4.made hB5).made hB6).mono (by omega)⟩
  have HDN : Hid (∀ (j : Nat), j + 1 < 66 → ∀ W, Calls Tryz.prog 38 #[.int .i64 (j : Nat)] W fun e w' => e = .returned (.int .i64 ((j : Int) + 1)) ∧ W = w') := fun j hj W => down_any j W (by omega) (by omega)
  have HG0 := Lib.hid hg
  clear h h1 hB1 hg
  go_enter_defers Tryz.func15, Tryz.ntmps15
  go_wp2_with fail
  go_loopw [7, 8] (fun u v wr => ∃ (j a : Nat) (Fx : Nat → Prop) (Vx : Int → ByteArray), u = .int .i64 (a : Nat) ∧ v = .int .i64 (j : Nat) ∧ j < 66 ∧ Hid (getM key (66 - j) S a = some r) ∧ Hid (TRun w0 (w.alloc (.cells #[.int .i64 0] 26)) wr s dk F Fx n Vx D (N + 4 * (j : Int)) t root S)) (fun _ v _ => 66 - (intOf v).toNat)
  case atStart => exact ⟨0, root, F, V, rfl, rfl, by omega, HG0, Lib.hid (HR0.out.mono (by omega))⟩
  case round =>
    obtain ⟨j, a, Fx, Vx, rfl, rfl, hj, hc, hr⟩ := hrel
    obtain ⟨kind, q, hld⟩ := HRD.out wr Fx Vx j a hj hc.out hr.out
    clear HR0 HG0 hc hr HRD
    go_wp2_with fail
    refine hld.mono ?_
    rintro e w4 ⟨F4, ao, c, rfl, hcase⟩
    clear hld
    rcases hcase with ⟨rfl, ix, hb, hfd⟩ | ⟨rfl, hj2, ix, hch⟩
    · go_wp2_with fail
      refine hfd.mono ?_
      rintro e w5 ⟨rfl, hr5, hres⟩
      obtain ⟨c5, f5, h6, c6⟩ := HE.out w5 F4 Vx S hr5
      have H6 := Lib.hid h6
      clear HE hr5 h6 hfd
      rcases hres with ⟨rfl, rfl⟩ | ⟨rfl, hi, hqc, hcm, g, y, rfl, rfl, d1⟩
      · go_wp2
        generalize w5.setCell ⟨w.heap.size, 0, none⟩ (.int .i64 0) = w6 at *
        refine leaves_cons (f := 27) (args := #[.pointer (some ⟨w.heap.size, 0, none⟩)]) (by simp) (by simp [go_sem]) ?_
        refine (settle_idle ⟨w.heap.size, 0, none⟩ _).mono ?_
        rintro e u' w'' ⟨rfl, rfl, rfl⟩
        have h7 := H6.out
        clear H6
        simp [Leaves, settle, results, Tryz.results15, go_sem, c6, valE]
        exact ⟨F4, Vx, h7⟩
      · have z1 : (ix : Int) < (q : Int) := by omega
        have z2 : (q : Int) ≤ (c : Int) := by omega
        go_wp2
        generalize w5.setCell ⟨w.heap.size, 0, none⟩ (.int .i64 0) = w6 at *
        refine leaves_cons (f := 27) (args := #[.pointer (some ⟨w.heap.size, 0, none⟩)]) (by simp) (by simp [go_sem]) ?_
        refine (settle_idle ⟨w.heap.size, 0, none⟩ _).mono ?_
        rintro e u' w'' ⟨rfl, rfl, rfl⟩
        have h7 := H6.out
        clear H6
        simp [Leaves, settle, results, Tryz.results15, go_sem, c6, valE]
        exact ⟨F4, Vx, h7⟩
    · have hdn := HDN.out j hj2
      clear HE
      go_wp2_with fail
      refine hch.mono ?_
      rintro e w5 ⟨rfl, hi, hqc, g, x, y, py, rfl, d0, d1, hpg⟩
      have z1 : (ix : Int) < (q : Int) := by omega
      have z2 : (q : Int) ≤ (c : Int) := by omega
      clear hch
      go_wp2_with fail
      refine hpg.mono ?_
      rintro e w6 ⟨rfl, hgm, hr6⟩
      have HGM := Lib.hid hgm
      have HR6 := Lib.hid hr6
      have hdn6 := hdn w6
      clear hpg hgm hr6
      go_wp2_with fail
      refine hdn6.mono ?_
      rintro e w7 ⟨rfl, rfl⟩
      clear hdn6 hdn
      go_wp2
      go_roundw
      case rel => exact ⟨j + 1, py, F4, Vx, rfl, by go_num, hj2, HGM, Lib.hid (HR6.out.mono (by push_cast; omega))⟩
      case measure => simp [intOf]; omega
end
end
/-! TApi2 -/
section
set_option linter.unusedSimpArgs false
set_option linter.unusedVariables false
open Go.RowKit Go.Maps Go.Shelf

/-- a tree by its entries l, its pages P; B: how strong it is at most -/
def TreeL (f m : Nat) (S : TS) (root : Nat) (l : List Ent) (P : List Nat) (B : Nat) : Prop :=
  ∃ d, ∃ L : List (Bd d), Tree f m S root d L ∧ flL d L = l ∧ root :: pgL d L = P ∧ stL d L ≤ B
theorem fl_stL {d : Nat} (ih : ∀ b : Bd d, lSum (flB d b) ≤ stB d b) : ∀ L : List (Bd d), lSum (flL d L) ≤ stL d L
  | [] => by simp [flL, stL, lSum]
  | b :: L => by
    have h1 := ih b
    have h2 := fl_stL ih L
    rw [flL_cons, stL_cons, lSum_append]
    omega
theorem fl_st : ∀ (d : Nat) (b : Bd d), lSum (flB d b) ≤ stB d b
  | 0, b => by show lSum [b] ≤ 2 + b.1.size + b.2.size; simp [lSum]
  | d + 1, b => by
    have h1 := fl_stL (fl_st d) b.2.2
    rw [flB_succ, stB_succ]
    exact Nat.le_trans h1 (Nat.le_max_right _ _)
section
variable {f m root B : Nat} {S S0 S1 S2 : TS} {key value from_ : ByteArray} {l : List Ent} {P : List Nat}
theorem TreeL.asc (h : TreeL f m S root l P B) : ascP l := by
  obtain ⟨d, L, h1, rfl, -⟩ := h
  exact flL_asc h1.lay.good
theorem TreeL.len (h : TreeL f m S root l P B) : 2 * l.length ≤ B := by
  obtain ⟨d, L, h1, rfl, -, h4⟩ := h
  have h2 := fl_stL (fl_st d) L
  have h3 := lSum_len (flL d L)
  omega
theorem TreeL.few (h : TreeL f m S root l P B) (hB : B ≤ 39000) : P.length ≤ 667 := by
  obtain ⟨d, L, h1, rfl, rfl, h4⟩ := h
  exact (h1.small (by omega)).2
theorem TreeL.nd (h : TreeL f m S root l P B) : P.Nodup ∧ (∀ k ∈ P, okM f m S k = true) ∧ root ∈ P := by
  obtain ⟨d, L, h1, rfl, rfl, h4⟩ := h
  exact ⟨h1.lay.nd, h1.lay.taken, List.mem_cons_self⟩
theorem dltP_le (h : ascP l) : dltP l key value ≤ 2 + key.size + value.size := by
  unfold dltP
  have := lSum_put l key value
  rw [lPut_eq h] at this
  omega
theorem TreeL.put (h : TreeL f m S root l P B) (hfm : f + m < 65536) (hB : B ≤ 39000) (hk : key.size ≤ 32) (hk0 : key.size ≠ 0) (hv : value.size ≤ 64) (hc : cntM m S + 6 ≤ m) :
    ∃ S' ps P', putM f m root key value 66 S root = some (S', ps) ∧ TreeL f m S' root (putL l key value) P' (B + 98) ∧ Ext f m S S' P P' := by
  have ha := h.asc
  obtain ⟨d, L, h1, rfl, rfl, h4⟩ := h
  have hd := (h1.small (by omega)).1
  obtain ⟨S', ps, d', L', e1, e2, e3, e4, e5⟩ := put_tree h1 hfm hk hk0 hv (by omega) (by omega)
  have := dltP_le (key := key) (value := value) ha
  exact ⟨S', ps, _, e1, ⟨d', L', e2, e4, rfl, by omega⟩, e3⟩
theorem TreeL.del (h : TreeL f m S root l P B) (hfm : f + m < 65536) (hB : B ≤ 39000) :
    ∃ S' P', delM f m root key S = some (S', hasL l key) ∧ TreeL f m S' root (takeL l key) P' B ∧ Ext f m S S' P P' := by
  obtain ⟨d, L, h1, rfl, rfl, h4⟩ := h
  have hd := (h1.small (by omega)).1
  rcases del_tree (key := key) h1 hfm (by omega) with ⟨e1, e2⟩ | ⟨e1, S', d', L', e2, e3, e4, e5, e6⟩
  · refine ⟨S, _, by rw [e1]; exact e2, ⟨d, L, h1, ?_, rfl, h4⟩, Ext.refl h1.lay.taken⟩
    refine (List.filter_eq_self.2 fun q hq => ?_).symm
    have := List.any_eq_false.1 e1 q hq
    simpa using this
  · exact ⟨S', _, by rw [e1]; exact e2, ⟨d', L', e3, e5, rfl, by omega⟩, e4⟩
theorem TreeL.get (h : TreeL f m S root l P B) (hfm : f + m < 65536) (hB : B ≤ 39000) : getM key 66 S root = some (valL l key) := by
  obtain ⟨d, L, h1, rfl, rfl, h4⟩ := h
  have hd := (h1.small (by omega)).1
  exact get_ok hfm d 66 root L (by omega) h1.lay (fun h0 => h1.ne h0)
theorem TreeL.walk (h : TreeL f m S root l P B) (hfm : f + m < 65536) (hB : B ≤ 39000) : ∃ pgs, walkM from_ 66 S root = some (fromL l from_, pgs) ∧ pgs.length ≤ P.length ∧ (from_ = ⟨#[]⟩ → pgs = P) := by
  obtain ⟨d, L, h1, rfl, rfl, h4⟩ := h
  have hd := (h1.small (by omega)).1
  obtain ⟨pgs, e1, e2, e3⟩ := walk_ok (from_ := from_) hfm d 66 root L (by omega) h1.lay (fun h0 => h1.ne h0)
  exact ⟨_, e1, by simpa using e3, fun h0 => by rw [e2 h0]⟩
/-- a new tree -/
theorem TreeL.new (hok : okM f m S root = true) (hp : S.pg root = some (1, [])) : TreeL f m S root [] [root] 0 := by
  refine ⟨0, [], ⟨⟨hp, by decide, fun b hb => (by cases hb), ⟨.nil, fun b hb => (by cases hb)⟩, by rw [pgL_zero]; simp, fun k hk => ?_⟩, fun h0 => absurd rfl h0⟩, rfl, by rw [pgL_zero], Nat.zero_le _⟩
  rw [pgL_zero] at hk
  obtain rfl := List.mem_singleton.1 hk
  exact hok
end
section
variable {w0 w W : World} {s dk t root : Nat} {F : Nat → Prop} {n N : Int} {V D : Int → ByteArray} {S S1 : TS}
set_option maxHeartbeats 1000000 in
theorem tput_empty (value : ByteArray) (w : World) : Calls Tryz.prog 18 #[.pointer (some ⟨t, 0, none⟩), .string ⟨#[]⟩, .string value] w fun e w' => e = .returned (.int .i64 1) ∧ Below w.heap.size w w' := by
  obtain ⟨w2, hw2⟩ : ∃ w2, (w.alloc (.cells #[.int .i64 0] 26)).setCell ⟨w.heap.size, 0, none⟩ (.int .i64 1) = w2 := ⟨_, rfl⟩
  have hB : Hid (Below w.heap.size w w2) := by
    rw [← hw2]
    exact ((Below.refl _ w).alloc (Nat.le_refl _) _).setCell (by simp) _
  have c2 : w2.cell? ⟨w.heap.size, 0, none⟩ = some (.int .i64 1) := by
    rw [← hw2, cell_of (heap_setCell_same (heap_alloc_new' w _) 0 _)]; rfl
  go_enter_defers Tryz.func18, Tryz.ntmps18
  go_wp2
  simp [bodyPostD, Leaves, settle, results, Tryz.results18, go_sem, c2]
  exact hB.out
set_option maxHeartbeats 1000000 in
theorem tput_long (key value : ByteArray) (w : World) (hk0 : key.toList.isEmpty = false) (hl : 32 < key.size ∨ 64 < value.size) : Calls Tryz.prog 18 #[.pointer (some ⟨t, 0, none⟩), .string key, .string value] w fun e w' => e = .returned (.int .i64 2) ∧ Below w.heap.size w w' := by
  obtain ⟨w2, hw2⟩ : ∃ w2, (w.alloc (.cells #[.int .i64 0] 26)).setCell ⟨w.heap.size, 0, none⟩ (.int .i64 2) = w2 := ⟨_, rfl⟩
  have hB : Hid (Below w.heap.size w w2) := by
    rw [← hw2]
    exact ((Below.refl _ w).alloc (Nat.le_refl _) _).setCell (by simp) _
  have c2 : w2.cell? ⟨w.heap.size, 0, none⟩ = some (.int .i64 2) := by
    rw [← hw2, cell_of (heap_setCell_same (heap_alloc_new' w _) 0 _)]; rfl
  by_cases h1 : 32 < key.size
  · have e1 : (32 : Int) < (key.size : Int) := by omega
    go_enter_defers Tryz.func18, Tryz.ntmps18
    go_wp2
    simp [bodyPostD, Leaves, settle, results, Tryz.results18, go_sem, c2]
    exact hB.out
  · have e1 : ¬ (32 : Int) < (key.size : Int) := by omega
    have e2 : (64 : Int) < (value.size : Int) := by omega
    go_enter_defers Tryz.func18, Tryz.ntmps18
    go_wp2
    simp [bodyPostD, Leaves, settle, results, Tryz.results18, go_sem, c2]
    exact hB.out
end
end
end Go.Proofs.YtmgcaohpbaiiaaaGreatDoor
