/- TreeShape: the walk. -/
import Derived.Test.YtmgcaohpbaiiaaaGreatDoorVn
import Derived.Deep.RegionHeld3
set_option linter.unusedSimpArgs false
set_option linter.unusedVariables false
namespace Go.Proofs.YtmgcaohpbaiiaaaGreatDoor
open Go.RowKit Go.Maps Go.Shelf

/-- a tree, its entries in a row, behind k acts and their looks; N: what the space has used up at most -/
def SAt (w0 wr : World) (s dk t root : Nat) (D : Int → ByteArray) (B0 : Nat) (ao : Option Addr) (c : Nat) (l : List Ent) (k : Nat) (N : Int) : Prop :=
  ∃ F V S P, TWorld w0 wr s dk t root F 2048 V D N S l P (98 * k) ∧ Row wr F B0 (.slice ao l.length c) l ∧ cntM (spMany 2048) S = P.length
theorem SAt.mono {w0 wr : World} {s dk t root : Nat} {D : Int → ByteArray} {B0 : Nat} {ao : Option Addr} {c : Nat} {l : List Ent} {k : Nat} {N M : Int} (h : SAt w0 wr s dk t root D B0 ao c l k N) (hle : N ≤ M) : SAt w0 wr s dk t root D B0 ao c l k M := by
  obtain ⟨F, V, S, P, hT, hrow, hcn⟩ := h
  exact ⟨F, V, S, P, ⟨⟨hT.tin.sin.mono hle, hT.tin.lt, hT.tin.at_, hT.tin.shows⟩, hT.tl⟩, hrow, hcn⟩
theorem SAt.below {w0 wr : World} {s dk t root : Nat} {D : Int → ByteArray} {B0 : Nat} {ao : Option Addr} {c : Nat} {l : List Ent} {k : Nat} {N : Int} (h : SAt w0 wr s dk t root D B0 ao c l k N) : Below w0.heap.size w0 wr := by
  obtain ⟨F, V, S, P, hT, -⟩ := h
  exact hT.tin.sin.below
theorem SAt.does {w0 wr : World} {s dk t root : Nat} {D : Int → ByteArray} {B0 : Nat} {ao : Option Addr} {c : Nat} {l : List Ent} {k : Nat} {N : Int} (h : SAt w0 wr s dk t root D B0 ao c l k N) (hB0 : B0 ≤ wr.heap.size) (hk : k < 301) (hN : N < 90000000) (kk nn : Int) (key value : ByteArray) (hkw : (Lit.int .i64 kk).wf = true) :
    Calls Tryz.prog 12 #[.pointer (some ⟨t, 0, none⟩), .slice ao l.length c, actV kk key value nn] wr fun e w' => ∃ a2 c2, e = .returned (.tuple #[.slice a2 (actL kk key value l).length c2, .bool true]) ∧ SAt w0 w' s dk t root D B0 a2 c2 (actL kk key value l) (k + 1) (N + 8000) ∧ wr.heap.size ≤ w'.heap.size := by
  obtain ⟨F, V, S, P, hT, hrow, hcn⟩ := h
  have hfew := hT.tl.few (by omega)
  refine (does_any hT hrow hB0 kk nn key value hkw (by omega) (by rw [hcn, many2048]; omega) (by omega)).mono ?_
  rintro e w' ⟨F', V', S', P', a2, c2, he, hr, hrow2, hT2, hE⟩
  refine ⟨a2, c2, he, ⟨F', V', S', P', ⟨hr.tin, ?_⟩, hrow2, ?_⟩, hr.size⟩
  · exact hT2.mono (by omega)
  · have := hE.cnt
    omega
/-- the look, from the call of Pages on; the entries are m -/
def SLookFrom (w0 w : World) (s dk t root : Nat) (D : Int → ByteArray) (N : Int) (k B0 c : Nat) (ao : Option Addr) (l : List Ent) (m p : Nat) (a1 : Option Addr) (c1 : Nat) (a2 : Option Addr) (c2 : Nat) (g : Nat) (o : Obj) (W1 : World) : Prop :=
    Calls Tryz.prog 17 #[.pointer (some ⟨t, 0, none⟩)] W1 fun e w2 => ∃ a3 c3, e = .returned (.tuple #[.slice a3 p c3, .int .i64 0]) ∧ w2.heap[g]? = some o ∧
     Calls Tryz.prog 20 #[.pointer (some ⟨s, 0, none⟩), .int .i64 root] w2 fun e w3 => ∃ top, e = .returned (.tuple #[.string top, .int .i64 0]) ∧ w3.heap[g]? = some o ∧
      Hid (∀ W3, Below w3.heap.size w3 W3 → Calls Tryz.prog 21 #[.string top] W3 fun e w4 => e = .returned (.bool false) ∧ w4.heap[g]? = some o ∧
       Hid (∀ W4, Below w4.heap.size w4 W4 → Calls Tryz.prog 14 #[.slice a1 m c1, .slice ao m c] W4 fun e w5 => e = .returned (.bool true) ∧ w5.heap[g]? = some o ∧
        Hid (∀ W5, Below w5.heap.size w5 W5 → Calls Tryz.prog 23 #[.slice a2 p c2] W5 fun e w6 => ∃ a4 c4 n4, e = .returned (.slice a4 n4 c4) ∧ w6.heap[g]? = some o ∧
         Hid (∀ W6, Below w6.heap.size w6 W6 → Calls Tryz.prog 22 #[.slice a3 p c3, .slice a4 n4 c4] W6 fun e w7 => e = .returned (.bool true) ∧ w7.heap[g]? = some o ∧
          Hid (∀ W7, Below w7.heap.size w7 W7 → Calls Tryz.prog 24 #[.pointer (some ⟨s, 0, none⟩)] W7 fun e w8 => ∃ a5 c5 n5, e = .returned (.slice a5 n5 c5) ∧ w8.heap[g]? = some o ∧
           Hid (∀ W8, Below w8.heap.size w8 W8 → Calls Tryz.prog 22 #[.slice a3 p c3, .slice a5 n5 c5] W8 fun e w9 => e = .returned (.bool true) ∧ w9.heap[g]? = some o ∧
            Hid (∀ W9, Below w9.heap.size w9 W9 → w.heap.size ≤ W9.heap.size ∧ SAt w0 W9 s dk t root D B0 ao c l k (N + 6000))))))))
theorem SAt.look {w0 wr : World} {s dk t root : Nat} {D : Int → ByteArray} {B0 : Nat} {ao : Option Addr} {c : Nat} {l : List Ent} {k : Nat} {N : Int} (h : SAt w0 wr s dk t root D B0 ao c l k N) (hk : k < 301) (hN : N < 90000000) :
    Calls Tryz.prog 19 #[.pointer (some ⟨s, 0, none⟩), .int .i64 root] wr fun e w1 => ∃ (d : Int) (p : Nat) (a1 : Option Addr) (c1 : Nat) (a2 : Option Addr) (c2 : Nat), e = .returned (.agg #[.slice a1 l.length c1, .slice a2 p c2, .int .i64 (d + 1), .bool true]) ∧
      ∀ o, SLookFrom w0 wr s dk t root D N k B0 c ao l l.length p a1 c1 a2 c2 w1.heap.size o (w1.alloc o) := by
  obtain ⟨F, V, S, P, hT, hrow, hcn⟩ := h
  refine (shape_look hT hcn (by omega) (by omega) hrow).mono ?_
  rintro e w1 ⟨d, a1, c1, a2, c2, he, hl⟩
  refine ⟨d, P.length, a1, c1, a2, c2, he, fun o => ?_⟩
  refine (hl o).mono ?_
  rintro e w2 ⟨a3, c3, e1, e2, h2⟩
  refine ⟨a3, c3, e1, e2, h2.mono ?_⟩
  rintro e w3 ⟨top, e1, e2, h3⟩
  refine ⟨top, e1, e2, fun W3 hB3 => (h3 W3 hB3).mono ?_⟩
  rintro e w4 ⟨e1, e2, h4⟩
  refine ⟨e1, e2, fun W4 hB4 => (h4 W4 hB4).mono ?_⟩
  rintro e w5 ⟨e1, e2, h5⟩
  refine ⟨e1, e2, fun W5 hB5 => (h5 W5 hB5).mono ?_⟩
  rintro e w6 ⟨a4, c4, n4, e1, e2, h6⟩
  refine ⟨a4, c4, n4, e1, e2, fun W6 hB6 => (h6 W6 hB6).mono ?_⟩
  rintro e w7 ⟨e1, e2, h7⟩
  refine ⟨e1, e2, fun W7 hB7 => (h7 W7 hB7).mono ?_⟩
  rintro e w8 ⟨a5, c5, n5, e1, e2, h8⟩
  refine ⟨a5, c5, n5, e1, e2, fun W8 hB8 => (h8 W8 hB8).mono ?_⟩
  rintro e w9 ⟨e1, e2, h9⟩
  refine ⟨e1, e2, fun W9 hB9 => ?_⟩
  obtain ⟨hs, F9, V9, hT9, hr9⟩ := h9 W9 hB9
  exact ⟨hs, F9, V9, S, P, hT9, hr9, hcn⟩
set_option maxHeartbeats 8000000 in
set_option maxRecDepth 100000 in
theorem tshape_walk (ap : Option Addr) (len cap : Nat) (w : World) (hg : Glob w) (hrow : RowActs w ap len) :
    Calls Tryz.prog 5 #[.slice ap len cap] w fun e w' => e = .returned (.bool true) ∧ Below w.heap.size w w' := by
  have HROW := Lib.hid hrow
  have HW := Lib.hid (twakes_any w hg)
  have HR : Hid (∀ w1, Below w.heap.size w w1 → Calls Tryz.prog 9 #[.int .i64 2048] w1 fun e w' => ∃ s d F V, e = .returned (.pointer (some ⟨s, 0, none⟩)) ∧ SIn w w' s d F 2048 V V 5000 ∧ (∀ b, F b → b < w'.heap.size) ∧ Shows 2048 V TS0) := fun w1 hB => room_any (w0 := w) (w := w1) 2048 (by omega) (by omega) hB hg
  clear hrow hg
  go_enter Tryz.func5, Tryz.ntmps5
  go_wp2_with fail
  refine HW.out.mono ?_
  rintro e w1 ⟨rfl, hB⟩
  have hr := HR.out w1 hB
  clear hB HW HR
  go_wp2_with fail
  refine hr.mono ?_
  rintro e w2 ⟨s, d, F2, V2, rfl, hS, hF, hV⟩
  have HS := Lib.hid hS
  obtain ⟨S1, root, hnew, hT, hE⟩ := new_tree (f := (jFirst 2048).toNat) (S := TS0) (m := spMany 2048) (by rw [cnt0, many2048]; omega)
  have hN := tnew_any hS hF hV root hnew (by omega)
  have HT := Lib.hid hT
  have hcc : cntM (spMany 2048) S1 = 1 := by
    have := hE.cnt
    rw [cnt0] at this
    simpa using this
  have HC := Lib.hid hcc
  clear hcc
  clear hS hF hV hT hE hnew hr
  by_cases hbig : 200 < len
  · have zb : (200 : Int) < (len : Int) := by omega
    clear hN
    go_wp2
    go_ret
    exact ⟨rfl, HS.out.below⟩
  · have zb : ¬ (200 : Int) < (len : Int) := by omega
    go_wp2_with fail
    refine hN.mono ?_
    rintro e w3 ⟨F3, V3, rfl, hst, hV3⟩
    have H3 := Lib.hid (TIn.at_new hst.sin hst.lt hV3 root)
    have ha := at_any (s := s) root w3
    clear hN hst hV3
    go_wp2_with fail
    refine ha.mono ?_
    rintro e w4 ⟨rfl, hw4⟩
    have h4 := H3.out
    rw [← hw4] at h4
    have HP0 : Hid (SAt w w4 s d w3.heap.size root V2 w4.heap.size none 0 [] 0 (5008 + 14000 * ((0 : Nat) : Int))) := ⟨F3, V3, S1, [root], ⟨by simpa using h4, by simpa using HT.out⟩, ⟨EOwn.nil _ _, fun b hb => by simp [Value.ownBlock] at hb⟩, HC.out⟩
    clear ha hw4 h4 H3 HT HC HS
    generalize w3.heap.size = t at *
    go_wp2
    go_loopw [7, 38] (fun u v wr => ∃ (k : Nat) (ao : Option Addr) (c : Nat) (l : List Ent), u = .slice ao l.length c ∧ v = .int .i64 k ∧ k ≤ len ∧ Hid (SAt w wr s d t root V2 w4.heap.size ao c l k (5008 + 14000 * (k : Int))) ∧ w4.heap.size ≤ wr.heap.size) (fun _ v _ => len - (intOf v).toNat)
    case atStart => exact ⟨0, none, 0, [], rfl, rfl, Nat.zero_le _, HP0, Nat.le_refl _⟩
    case round =>
      obtain ⟨k, ao, c, l, rfl, rfl, hk, HP, hsz⟩ := hrel
      by_cases hlt : k < len
      · obtain ⟨b, off, kk, nn, key, value, rfl, hbl, hc0, hw0, hc1, hc2, hc3⟩ := HROW.out k hlt
        have hbel := HP.out.below
        have g0 : wr.cell? ⟨b, off + k * 4, none⟩ = some (.int .i64 kk) := (hbel.cell (p := ⟨b, off + k * 4, none⟩) hbl).trans hc0
        have g1 : wr.cell? ⟨b, off + k * 4 + 1, none⟩ = some (.string key) := (hbel.cell (p := ⟨b, off + k * 4 + 1, none⟩) hbl).trans hc1
        have g2 : wr.cell? ⟨b, off + k * 4 + 2, none⟩ = some (.string value) := (hbel.cell (p := ⟨b, off + k * 4 + 2, none⟩) hbl).trans hc2
        have g3 : wr.cell? ⟨b, off + k * 4 + 3, none⟩ = some (.int .i64 nn) := (hbel.cell (p := ⟨b, off + k * 4 + 3, none⟩) hbl).trans hc3
        have HX := HP.out.does hsz (by omega) (by omega) kk nn key value hw0
        clear hbel hc0 hc1 hc2 hc3 HP HP0
        unfold actV at HX
        go_wp2_with fail
        refine HX.mono ?_
        rintro e w5 ⟨a2, c2, rfl, hP2, hsz2⟩
        have HP2 := Lib.hid hP2
        clear HX hP2 g0 g1 g2 g3
        generalize actL kk key value l = l2 at *
        by_cases hpass : ¬ ((k : Int) % 7 = 0) ∧ ¬ ((k : Int) = (len : Int) - 1)
        · obtain ⟨y1, y2⟩ := hpass
          have y3 : ((k : Int) % 7 != 0) = true := by simpa using y1
          have y4 : ((k : Int) != (len : Int) - 1) = true := by simpa using y2
          go_wp2
          go_roundw
          case rel => exact ⟨k + 1, a2, c2, l2, rfl, by go_num, by omega, Lib.hid (HP2.out.mono (by push_cast; omega)), by omega⟩
          case measure => simp [intOf]; omega
        · have hlook := HP2.out.look (by omega) (by omega)
          have HM : Hid (l2.length = l2.length) := Lib.hid rfl
          rcases (show ((k : Int) % 7 = 0) ∨ (¬ ((k : Int) % 7 = 0) ∧ ((k : Int) != (len : Int) - 1) = false) by
            by_cases h7 : (k : Int) % 7 = 0
            · exact .inl h7
            · exact .inr ⟨h7, by
                by_cases h8 : (k : Int) = (len : Int) - 1
                · simpa using h8
                · exact absurd ⟨h7, h8⟩ hpass⟩) with y1 | ⟨y1, y2⟩
          · clear hpass HP2
            go_wp2_with fail
            refine hlook.mono ?_
            rintro e w6 ⟨dd, p, a1, c1, a3, c3, rfl, hfrom⟩
            clear hlook
            have hfr := hfrom (.cells #[.slice a1 l2.length c1, .slice a3 p c3, .int .i64 (dd + 1), .bool true] 50 (0, 0))
            clear hfrom
            unfold SLookFrom at hfr
            go_wp2_with fail
            refine hfr.mono ?_
            rintro e w7 ⟨a4, c4, rfl, hb7, h7⟩
            clear hfr
            go_wp2_with fail
            refine h7.mono ?_
            rintro e w8 ⟨top, rfl, hb8, H8⟩
            clear h7 hb7
            have HBX : Hid (∀ W : World, W.heap[w6.heap.size]? = some (.cells #[.slice a1 l2.length c1, .slice a3 p c3, .int .i64 (dd + 1), .bool true] 50 (0, 0)) → W.cell? ⟨w6.heap.size, 0, none⟩ = some (.slice a1 l2.length c1) ∧ W.cell? ⟨w6.heap.size, 1, none⟩ = some (.slice a3 p c3) ∧ W.cell? ⟨w6.heap.size, 3, none⟩ = some (.bool true)) := fun W hW => ⟨by rw [cell_of hW]; rfl, by rw [cell_of hW]; rfl, by rw [cell_of hW]; rfl⟩
            obtain ⟨x0, x1, x3⟩ := HBX.out w8 hb8
            clear hb8
            have h9 := H8.out w8 (Below.refl _ _)
            go_wp2_with fail
            refine h9.mono ?_
            rintro e v10 ⟨rfl, hb10, H10⟩
            clear x0 x1 x3
            obtain ⟨x0, x1, x3⟩ := HBX.out v10 hb10
            clear h9 hb10
            have h10 := H10.out v10 (Below.refl _ _)
            go_wp2_with fail
            refine h10.mono ?_
            rintro e v11 ⟨rfl, hb11, H11⟩
            clear x0 x1 x3
            obtain ⟨x0, x1, x3⟩ := HBX.out v11 hb11
            clear h10 hb11
            have h11 := H11.out v11 (Below.refl _ _)
            go_wp2_with fail
            refine h11.mono ?_
            rintro e v12 ⟨a5, c5, n5, rfl, hb12, H12⟩
            clear x0 x1 x3
            obtain ⟨x0, x1, x3⟩ := HBX.out v12 hb12
            clear h11 hb12
            have h12 := H12.out v12 (Below.refl _ _)
            go_wp2_with fail
            refine h12.mono ?_
            rintro e v13 ⟨rfl, hb13, H13⟩
            clear x0 x1 x3
            obtain ⟨x0, x1, x3⟩ := HBX.out v13 hb13
            clear h12 hb13
            have h13 := H13.out v13 (Below.refl _ _)
            go_wp2_with fail
            refine h13.mono ?_
            rintro e v14 ⟨a6, c6, n6, rfl, hb14, H14⟩
            clear x0 x1 x3
            obtain ⟨x0, x1, x3⟩ := HBX.out v14 hb14
            clear h13 hb14
            have h14 := H14.out v14 (Below.refl _ _)
            go_wp2_with fail
            refine h14.mono ?_
            rintro e v15 ⟨rfl, hb15, H15⟩
            clear x0 x1 x3
            obtain ⟨x0, x1, x3⟩ := HBX.out v15 hb15
            clear h14 hb15
            have hlast := H15.out v15 (Below.refl _ _)
            have hsz6 := hlast.1
            have HP5 := Lib.hid hlast.2
            clear hlast
            go_wp2
            go_roundw
            case rel => exact ⟨k + 1, a2, c2, l2, rfl, by go_num, by omega, Lib.hid (HP5.out.mono (by push_cast; omega)), by omega⟩
            case measure => simp [intOf]; omega
          · clear hpass HP2
            go_wp2_with fail
            refine hlook.mono ?_
            rintro e w6 ⟨dd, p, a1, c1, a3, c3, rfl, hfrom⟩
            clear hlook
            have hfr := hfrom (.cells #[.slice a1 l2.length c1, .slice a3 p c3, .int .i64 (dd + 1), .bool true] 50 (0, 0))
            clear hfrom
            unfold SLookFrom at hfr
            go_wp2_with fail
            refine hfr.mono ?_
            rintro e w7 ⟨a4, c4, rfl, hb7, h7⟩
            clear hfr
            go_wp2_with fail
            refine h7.mono ?_
            rintro e w8 ⟨top, rfl, hb8, H8⟩
            clear h7 hb7
            have HBX : Hid (∀ W : World, W.heap[w6.heap.size]? = some (.cells #[.slice a1 l2.length c1, .slice a3 p c3, .int .i64 (dd + 1), .bool true] 50 (0, 0)) → W.cell? ⟨w6.heap.size, 0, none⟩ = some (.slice a1 l2.length c1) ∧ W.cell? ⟨w6.heap.size, 1, none⟩ = some (.slice a3 p c3) ∧ W.cell? ⟨w6.heap.size, 3, none⟩ = some (.bool true)) := fun W hW => ⟨by rw [cell_of hW]; rfl, by rw [cell_of hW]; rfl, by rw [cell_of hW]; rfl⟩
            obtain ⟨x0, x1, x3⟩ := HBX.out w8 hb8
            clear hb8
            have h9 := H8.out w8 (Below.refl _ _)
            go_wp2_with fail
            refine h9.mono ?_
            rintro e v10 ⟨rfl, hb10, H10⟩
            clear x0 x1 x3
            obtain ⟨x0, x1, x3⟩ := HBX.out v10 hb10
            clear h9 hb10
            have h10 := H10.out v10 (Below.refl _ _)
            go_wp2_with fail
            refine h10.mono ?_
            rintro e v11 ⟨rfl, hb11, H11⟩
            clear x0 x1 x3
            obtain ⟨x0, x1, x3⟩ := HBX.out v11 hb11
            clear h10 hb11
            have h11 := H11.out v11 (Below.refl _ _)
            go_wp2_with fail
            refine h11.mono ?_
            rintro e v12 ⟨a5, c5, n5, rfl, hb12, H12⟩
            clear x0 x1 x3
            obtain ⟨x0, x1, x3⟩ := HBX.out v12 hb12
            clear h11 hb12
            have h12 := H12.out v12 (Below.refl _ _)
            go_wp2_with fail
            refine h12.mono ?_
            rintro e v13 ⟨rfl, hb13, H13⟩
            clear x0 x1 x3
            obtain ⟨x0, x1, x3⟩ := HBX.out v13 hb13
            clear h12 hb13
            have h13 := H13.out v13 (Below.refl _ _)
            go_wp2_with fail
            refine h13.mono ?_
            rintro e v14 ⟨a6, c6, n6, rfl, hb14, H14⟩
            clear x0 x1 x3
            obtain ⟨x0, x1, x3⟩ := HBX.out v14 hb14
            clear h13 hb14
            have h14 := H14.out v14 (Below.refl _ _)
            go_wp2_with fail
            refine h14.mono ?_
            rintro e v15 ⟨rfl, hb15, H15⟩
            clear x0 x1 x3
            obtain ⟨x0, x1, x3⟩ := HBX.out v15 hb15
            clear h14 hb15
            have hlast := H15.out v15 (Below.refl _ _)
            have hsz6 := hlast.1
            have HP5 := Lib.hid hlast.2
            clear hlast
            go_wp2
            go_roundw
            case rel => exact ⟨k + 1, a2, c2, l2, rfl, by go_num, by omega, Lib.hid (HP5.out.mono (by push_cast; omega)), by omega⟩
            case measure => simp [intOf]; omega
      · obtain rfl : k = len := by omega
        have hbel := HP.out.below
        clear HP HP0 HROW
        go_wp2
        go_ret
        exact ⟨rfl, hbel⟩
end Go.Proofs.YtmgcaohpbaiiaaaGreatDoor
