/- TreePlays: the walk. -/
import Derived.Test.YtmgcaohpbaiiaaaGreatDoorU14
import Derived.Test.YtmgcaohpbaiiaaaGreatDoorU10
set_option linter.unusedSimpArgs false
set_option linter.unusedVariables false
namespace Go.Proofs.YtmgcaohpbaiiaaaGreatDoor
open Go.RowKit Go.Maps Go.Shelf

theorem many2048 : spMany 2048 = 1017 := by decide
section
variable {f m root B : Nat} {S S0 S1 S2 : TS} {l : List Ent} {P : List Nat}
theorem new_tree (hc : cntM m S < m) : ∃ S1 a, newM f m S = some (S1, a) ∧ TreeL f m S1 a [] [a] 0 ∧ Ext f m S S1 [] [a] := by
  obtain ⟨a, S1, h1, h2, -, -, h5, -⟩ := alloc_ext (f := f) hc
  obtain ⟨S2, h6, h7, h8⟩ := store_ext (kind := 1) (l := []) h5 (by decide)
  refine ⟨S2, a, ?_, TreeL.new (h7.taken a (by simp)) h8, h2.trans h7⟩
  unfold newM
  rw [h1]
  simp only [Option.bind_some]
  rw [h6]
  rfl
theorem cnt0 (m : Nat) : cntM m TS0 = 0 := List.countP_eq_zero.2 fun x _ => by simp [TS0]
end
def RowActs (w : World) (a : Option Addr) (n : Nat) : Prop :=
  ∀ i, i < n → ∃ (b off : Nat) (k nn : Int) (key value : ByteArray), a = some ⟨b, off, none⟩ ∧ b < w.heap.size ∧ w.cell? ⟨b, off + i * 4, none⟩ = some (.int .i64 k) ∧ (Lit.int .i64 k).wf = true ∧
    w.cell? ⟨b, off + i * 4 + 1, none⟩ = some (.string key) ∧ w.cell? ⟨b, off + i * 4 + 2, none⟩ = some (.string value) ∧ w.cell? ⟨b, off + i * 4 + 3, none⟩ = some (.int .i64 nn)
/-- a tree, its entries in a row, behind k acts -/
def PLoop (w0 wr : World) (s dk t root : Nat) (D : Int → ByteArray) (B0 : Nat) (ao : Option Addr) (c : Nat) (l : List Ent) (k : Nat) : Prop :=
  ∃ F V S P, TWorld w0 wr s dk t root F 2048 V D (5008 + 8000 * (k : Int)) S l P (98 * k) ∧ Row wr F B0 (.slice ao l.length c) l ∧ cntM (spMany 2048) S = P.length
theorem PLoop.does {w0 wr : World} {s dk t root : Nat} {D : Int → ByteArray} {B0 : Nat} {ao : Option Addr} {c : Nat} {l : List Ent} {k : Nat} (h : PLoop w0 wr s dk t root D B0 ao c l k) (hB0 : B0 ≤ wr.heap.size) (hk : k < 301) (kk nn : Int) (key value : ByteArray) (hkw : (Lit.int .i64 kk).wf = true) :
    Calls Tryz.prog 12 #[.pointer (some ⟨t, 0, none⟩), .slice ao l.length c, actV kk key value nn] wr fun e w' => ∃ a2 c2, e = .returned (.tuple #[.slice a2 (actL kk key value l).length c2, .bool true]) ∧ PLoop w0 w' s dk t root D B0 a2 c2 (actL kk key value l) (k + 1) ∧ wr.heap.size ≤ w'.heap.size := by
  obtain ⟨F, V, S, P, hT, hrow, hcn⟩ := h
  have hfew := hT.tl.few (by omega)
  refine (does_any hT hrow hB0 kk nn key value hkw (by omega) (by rw [hcn, many2048]; omega) (by omega)).mono ?_
  rintro e w' ⟨F', V', S', P', a2, c2, he, hr, hrow2, hT2, hE⟩
  refine ⟨a2, c2, he, ⟨F', V', S', P', ⟨?_, ?_⟩, hrow2, ?_⟩, hr.size⟩
  · have := hr.tin
    rw [show (5008 : Int) + 8000 * ((k + 1 : Nat) : Int) = 5008 + 8000 * (k : Int) + 8000 by push_cast; omega]
    exact this
  · exact hT2.mono (by omega)
  · have := hE.cnt
    omega
theorem PLoop.below {w0 wr : World} {s dk t root : Nat} {D : Int → ByteArray} {B0 : Nat} {ao : Option Addr} {c : Nat} {l : List Ent} {k : Nat} (h : PLoop w0 wr s dk t root D B0 ao c l k) : Below w0.heap.size w0 wr := by
  obtain ⟨F, V, S, P, hT, -⟩ := h
  exact hT.tin.sin.below
set_option maxHeartbeats 4000000 in
set_option maxRecDepth 100000 in
theorem tplays_walk (ap : Option Addr) (len cap : Nat) (w : World) (hg : Glob w) (hrow : RowActs w ap len) :
    Calls Tryz.prog 3 #[.slice ap len cap] w fun e w' => e = .returned (.bool true) ∧ Below w.heap.size w w' := by
  have HROW := Lib.hid hrow
  have HW := Lib.hid (twakes_any w hg)
  have HR : Hid (∀ w1, Below w.heap.size w w1 → Calls Tryz.prog 9 #[.int .i64 2048] w1 fun e w' => ∃ s d F V, e = .returned (.pointer (some ⟨s, 0, none⟩)) ∧ SIn w w' s d F 2048 V V 5000 ∧ (∀ b, F b → b < w'.heap.size) ∧ Shows 2048 V TS0) := fun w1 hB => room_any (w0 := w) (w := w1) 2048 (by omega) (by omega) hB hg
  clear hrow hg
  go_enter Tryz.func3, Tryz.ntmps3
  go_wp2_with fail
  refine HW.out.mono ?_
  rintro e w1 ⟨rfl, hB⟩
  have hr := HR.out w1 hB
  clear hB HW HR
  go_wp2_with fail
  refine hr.mono ?_
  rintro e w2 ⟨s, d, F2, V2, rfl, hS, hF, hV⟩
  have HS := Lib.hid hS
  obtain ⟨S1, root, hnew, hT, hE⟩ := new_tree (f := (jFirst 2048).toNat) (S := TS0) (m := spMany 2048) (by rw [cnt0, many2048]; omega)
  have hN := tnew_any hS hF hV root hnew (by omega)
  have HT := Lib.hid hT
  have hcc : cntM (spMany 2048) S1 = 1 := by
    have := hE.cnt
    rw [cnt0] at this
    simpa using this
  have HC := Lib.hid hcc
  clear hcc
  clear hS hF hV hT hE hnew hr
  by_cases hbig : 300 < len
  · have zb : (300 : Int) < (len : Int) := by omega
    clear hN
    go_wp2
    go_ret
    exact ⟨rfl, HS.out.below⟩
  · have zb : ¬ (300 : Int) < (len : Int) := by omega
    go_wp2_with fail
    refine hN.mono ?_
    rintro e w3 ⟨F3, V3, rfl, hst, hV3⟩
    have H3 := Lib.hid (TIn.at_new hst.sin hst.lt hV3 root)
    have ha := at_any (s := s) root w3
    clear hN hst hV3
    go_wp2_with fail
    refine ha.mono ?_
    rintro e w4 ⟨rfl, hw4⟩
    have h4 := H3.out
    rw [← hw4] at h4
    have HP0 : Hid (PLoop w w4 s d w3.heap.size root V2 w4.heap.size none 0 [] 0) := ⟨F3, V3, S1, [root], ⟨by simpa using h4, by simpa using HT.out⟩, ⟨EOwn.nil _ _, fun b hb => by simp [Value.ownBlock] at hb⟩, HC.out⟩
    clear ha hw4 h4 H3 HT HC HS
    generalize w3.heap.size = t at *
    go_wp2
    go_loopw [7, 37] (fun u v wr => ∃ (k : Nat) (ao : Option Addr) (c : Nat) (l : List Ent), u = .slice ao l.length c ∧ v = .int .i64 k ∧ k ≤ len ∧ Hid (PLoop w wr s d t root V2 w4.heap.size ao c l k) ∧ w4.heap.size ≤ wr.heap.size) (fun _ v _ => len - (intOf v).toNat)
    case atStart => exact ⟨0, none, 0, [], rfl, rfl, Nat.zero_le _, HP0, Nat.le_refl _⟩
    case round =>
      obtain ⟨k, ao, c, l, rfl, rfl, hk, HP, hsz⟩ := hrel
      by_cases hlt : k < len
      · obtain ⟨b, off, kk, nn, key, value, rfl, hbl, hc0, hw0, hc1, hc2, hc3⟩ := HROW.out k hlt
        have hbel := HP.out.below
        have g0 : wr.cell? ⟨b, off + k * 4, none⟩ = some (.int .i64 kk) := (hbel.cell (p := ⟨b, off + k * 4, none⟩) hbl).trans hc0
        have g1 : wr.cell? ⟨b, off + k * 4 + 1, none⟩ = some (.string key) := (hbel.cell (p := ⟨b, off + k * 4 + 1, none⟩) hbl).trans hc1
        have g2 : wr.cell? ⟨b, off + k * 4 + 2, none⟩ = some (.string value) := (hbel.cell (p := ⟨b, off + k * 4 + 2, none⟩) hbl).trans hc2
        have g3 : wr.cell? ⟨b, off + k * 4 + 3, none⟩ = some (.int .i64 nn) := (hbel.cell (p := ⟨b, off + k * 4 + 3, none⟩) hbl).trans hc3
        have HX := HP.out.does hsz (by omega) kk nn key value hw0
        clear hbel hc0 hc1 hc2 hc3 HP HP0
        unfold actV at HX
        go_wp2_with fail
        refine HX.mono ?_
        rintro e w5 ⟨a2, c2, rfl, hP2, hsz2⟩
        have HP2 := Lib.hid hP2
        clear HX hP2 g0 g1 g2 g3
        generalize actL kk key value l = l2 at *
        go_wp2
        go_roundw
        case rel => exact ⟨k + 1, a2, c2, l2, rfl, by go_num, by omega, HP2, by omega⟩
        case measure => simp [intOf]; omega
      · obtain rfl : k = len := by omega
        obtain ⟨F, V, S, P, hT, hrow, -⟩ := HP.out
        have hlen := hT.tl.len
        have hll := tlist_all hT ⟨#[]⟩ ((l.length : Int) + 1) (by omega) (by omega)
        rw [fromL_all, List.take_of_length_le (show l.length ≤ ((l.length : Int) + 1).toNat by omega)] at hll
        have HSM : Hid (∀ w5 F5 aX cX, TRun w wr w5 s d F F5 2048 V V2 (5008 + 8000 * (k : Int) + 7000) t root S → Row w5 F5 wr.heap.size (.slice aX l.length cX) l → Calls Tryz.prog 14 #[.slice aX l.length cX, .slice ao l.length c] w5 fun e w' => e = .returned (.bool true) ∧ Below w.heap.size w w') := fun w5 F5 aX cX hr hrX => by
          have hrow5 := hr.tst.keeps _ _ _ hrow
          obtain ⟨_, _, e0, er, -⟩ := hrow5.parts
          simp at e0
          obtain ⟨rfl, rfl⟩ := e0
          obtain ⟨_, _, e1, erX, -⟩ := hrX.parts
          simp at e1
          obtain ⟨rfl, rfl⟩ := e1
          refine (rsame_any w5 aX ao cX c l l erX er (by omega) (by omega)).mono ?_
          rintro e w' ⟨he, hB⟩
          exact ⟨by simpa using he, hr.tin.sin.below.trans (hB.mono hr.tin.sin.below.size)⟩
        clear hT hrow HP HP0 HROW
        generalize l.length = n at *
        go_wp2_with fail
        refine hll.mono ?_
        rintro e w5 ⟨F5, aX, cX, rfl, hr5, hrX⟩
        have hsm := HSM.out w5 F5 aX cX hr5 hrX
        clear hll HSM hr5 hrX
        go_wp2_with (go_at_call 14; refine hsm.mono ?_; rintro e w6 ⟨rfl, hB6⟩)
        go_ret
        exact ⟨rfl, hB6⟩
end Go.Proofs.YtmgcaohpbaiiaaaGreatDoor
