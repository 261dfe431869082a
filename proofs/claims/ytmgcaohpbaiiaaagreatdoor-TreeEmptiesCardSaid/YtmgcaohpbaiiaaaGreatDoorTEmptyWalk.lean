/- TreeEmpties: the walk. -/
import Derived.Test.YtmgcaohpbaiiaaaGreatDoorTPlaysWalk
import Derived.Test.YtmgcaohpbaiiaaaGreatDoorTInts
set_option linter.unusedSimpArgs false
set_option linter.unusedVariables false
namespace Go.Proofs.YtmgcaohpbaiiaaaGreatDoor
open Go.RowKit Go.Maps Go.Shelf

/-- what is left behind i takes, from the one end or the other -/
def restE (tr : Bool) (l : List Ent) (i : Nat) : List Ent := if tr then l.take (l.length - i) else l.drop i
def restI (tr : Bool) (n i : Nat) : Nat := if tr then n - 1 - i else i
theorem take_one {x z : List Ent} {q : Ent} (h : ascP (x ++ [q] ++ z)) : hasL (x ++ [q] ++ z) q.1 = true ∧ takeL (x ++ [q] ++ z) q.1 = x ++ z := by
  obtain ⟨h1, h2, h3⟩ := List.pairwise_append.1 h
  obtain ⟨h4, h5, h6⟩ := List.pairwise_append.1 h1
  have hx : ∀ p ∈ x, ltB p.1 q.1 = true := fun p hp => h6 p hp q (by simp)
  have hz : ∀ p ∈ z, ltB q.1 p.1 = true := fun p hp => h3 q (by simp) p hp
  rw [hasL_mid hx hz, takeL_mid hx hz]
  simp [hasL, takeL]
theorem rest_step {l : List Ent} (ha : ascP l) (tr : Bool) {i : Nat} (hi : i < l.length) : ∃ hk : restI tr l.length i < l.length, hasL (restE tr l i) (l[restI tr l.length i]'hk).1 = true ∧ takeL (restE tr l i) (l[restI tr l.length i]'hk).1 = restE tr l (i + 1) := by
  cases tr with
  | false =>
    refine ⟨hi, ?_⟩
    show hasL (l.drop i) (l[i]'hi).1 = true ∧ takeL (l.drop i) (l[i]'hi).1 = l.drop (i + 1)
    have e : l.drop i = [] ++ [l[i]] ++ l.drop (i + 1) := by rw [List.drop_eq_getElem_cons hi]; rfl
    have ha2 : ascP (l.drop i) := List.Pairwise.sublist (List.drop_sublist _ _) ha
    rw [e] at ha2
    have := take_one ha2
    rw [← e] at this
    exact this
  | true =>
    have hk : l.length - 1 - i < l.length := by omega
    refine ⟨hk, ?_⟩
    show hasL (l.take (l.length - i)) (l[l.length - 1 - i]'hk).1 = true ∧ takeL (l.take (l.length - i)) (l[l.length - 1 - i]'hk).1 = l.take (l.length - (i + 1))
    have e : l.take (l.length - i) = l.take (l.length - 1 - i) ++ [l[l.length - 1 - i]'hk] ++ [] := by
      rw [List.append_nil, ← List.take_succ_eq_append_getElem hk]
      congr 1
      omega
    have ha2 : ascP (l.take (l.length - i)) := List.Pairwise.sublist (List.take_sublist _ _) ha
    rw [e] at ha2
    have := take_one ha2
    rw [← e, List.append_nil] at this
    rw [show l.length - (i + 1) = l.length - 1 - i by omega]
    exact this
theorem rest_end (tr : Bool) (l : List Ent) : restE tr l l.length = [] := by cases tr <;> simp [restE]
theorem rest_start (tr : Bool) (l : List Ent) : restE tr l 0 = l := by cases tr <;> simp [restE]
/-- entries E in the tree, l in the row, behind 300 acts and i takes -/
def ELoop (w0 wr : World) (s dk t root : Nat) (D : Int → ByteArray) (B0 : Nat) (ao : Option Addr) (c : Nat) (l E : List Ent) (i : Nat) : Prop :=
  ∃ F V S P, TWorld w0 wr s dk t root F 2048 V D (2500000 + 8000 * (i : Int)) S E P 30000 ∧ Row wr F B0 (.slice ao l.length c) l ∧ cntM (spMany 2048) S = P.length
theorem PLoop.e {w0 wr : World} {s dk t root : Nat} {D : Int → ByteArray} {B0 : Nat} {ao : Option Addr} {c : Nat} {l : List Ent} {k : Nat} (h : PLoop w0 wr s dk t root D B0 ao c l k) (hk : k < 301) : ELoop w0 wr s dk t root D B0 ao c l l 0 := by
  obtain ⟨F, V, S, P, hT, hrow, hcn⟩ := h
  refine ⟨F, V, S, P, ⟨?_, hT.tl.mono (by omega)⟩, hrow, hcn⟩
  have := hT.tin
  exact ⟨this.sin.mono (by omega), this.lt, this.at_, this.shows⟩
theorem ELoop.below {w0 wr : World} {s dk t root : Nat} {D : Int → ByteArray} {B0 : Nat} {ao : Option Addr} {c : Nat} {l E : List Ent} {k : Nat} (h : ELoop w0 wr s dk t root D B0 ao c l E k) : Below w0.heap.size w0 wr := by
  obtain ⟨F, V, S, P, hT, -⟩ := h
  exact hT.tin.sin.below
theorem ELoop.row {w0 wr : World} {s dk t root : Nat} {D : Int → ByteArray} {B0 : Nat} {ao : Option Addr} {c : Nat} {l E : List Ent} {k : Nat} (h : ELoop w0 wr s dk t root D B0 ao c l E k) {j : Nat} (hj : j < l.length) : ∃ g, ao = some ⟨g, 0, none⟩ ∧ l.length ≤ c ∧ wr.cell? ⟨g, j * 2, none⟩ = some (.string (l[j]'hj).1) := by
  obtain ⟨F, V, S, P, hT, hrow, -⟩ := h
  obtain ⟨_, _, e0, er, -, -, hlc⟩ := hrow.parts
  simp at e0
  obtain ⟨rfl, rfl⟩ := e0
  obtain ⟨g, off, rfl, d0, d1⟩ := er.at hj
  obtain ⟨g', cur, e2, -⟩ := hrow.own.block
  simp at e2
  obtain ⟨rfl, rfl⟩ := e2
  rw [Nat.zero_add] at d0
  exact ⟨g, rfl, hlc, d0⟩
theorem ELoop.del {w0 wr : World} {s dk t root : Nat} {D : Int → ByteArray} {B0 : Nat} {ao : Option Addr} {c : Nat} {l E : List Ent} {i : Nat} (h : ELoop w0 wr s dk t root D B0 ao c l E i) (hi : i < 20000) (key : ByteArray) (hh : hasL E key = true) :
    Calls Tryz.prog 16 #[.pointer (some ⟨t, 0, none⟩), .string key] wr fun e w' => e = .returned (.tuple #[.bool true, .int .i64 0]) ∧ ELoop w0 w' s dk t root D B0 ao c l (takeL E key) (i + 1) := by
  obtain ⟨F, V, S, P, hT, hrow, hcn⟩ := h
  obtain ⟨S', P', hdel, hT', hE⟩ := hT.tl.del (key := key) hT.fm (by omega)
  refine (tdel_any hT.tin key _ hdel (by omega)).mono ?_
  rintro e w' ⟨F', V', he, hr⟩
  rw [hh] at he
  refine ⟨he, F', V', S', P', ⟨?_, hT'⟩, hr.tst.keeps _ _ _ hrow, ?_⟩
  · have := hr.tin
    rw [show (2500000 : Int) + 8000 * ((i + 1 : Nat) : Int) = 2500000 + 8000 * (i : Int) + 8000 by push_cast; omega]
    exact this
  · have := hE.cnt
    omega
/-- what is looked at last -/
theorem ELoop.last {w0 wr : World} {s dk t root : Nat} {D : Int → ByteArray} {B0 : Nat} {ao : Option Addr} {c : Nat} {l : List Ent} {i : Nat} (h : ELoop w0 wr s dk t root D B0 ao c l [] i) (hi : i < 20001) :
    Calls Tryz.prog 13 #[.pointer (some ⟨t, 0, none⟩), .string ⟨#[]⟩, .int .i64 1] wr fun e w5 => ∃ aX cX, e = .returned (.tuple #[.slice aX 0 cX, .int .i64 0]) ∧
      Calls Tryz.prog 24 #[.pointer (some ⟨s, 0, none⟩)] w5 fun e w6 => ∃ a cap, e = .returned (.slice a 1 cap) ∧ ∀ w7 g c7, Below w6.heap.size w6 w7 → w7.cell? ⟨g, 0, none⟩ = some (.int .i64 root) → g < w7.heap.size →
        Calls Tryz.prog 22 #[.slice a 1 cap, .slice (some ⟨g, 0, none⟩) 1 c7] w7 fun e w8 => e = .returned (.bool true) ∧ Below w0.heap.size w0 w8 := by
  obtain ⟨F, V, S, P, hT, hrow, hcn⟩ := h
  have hP := hT.tl.empty
  subst hP
  have hone := taken_one (hT.tl.nd.2.1 root (by simp)) (by simpa using hcn)
  have hll := tlist_all hT ⟨#[]⟩ 1 (by omega) (by omega)
  refine hll.mono ?_
  rintro e w5 ⟨F5, aX, cX, he, hr5, -⟩
  refine ⟨aX, cX, he, ?_⟩
  have htk := taken_any hr5.tin (by omega)
  rw [hone] at htk
  refine htk.mono ?_
  rintro e w6 ⟨F6, a, cap, he6, hr6, hz⟩
  refine ⟨a, cap, he6, fun w7 g c7 hB hc hg => ?_⟩
  have := tsame_ints w7 a (some ⟨g, 0, none⟩) cap c7 [(root : Int)] [(root : Int)] (hz.made hB) (fun i hi => by
    obtain rfl : i = 0 := by simp at hi; omega
    exact ⟨g, 0, rfl, hg, hc⟩) (by simp) (by simp)
  refine this.mono ?_
  rintro e w8 ⟨he8, hB8⟩
  have hb6 := hr6.tin.sin.below
  have hb7 := hb6.trans (hB.mono hb6.size)
  exact ⟨by simpa using he8, hb7.trans (hB8.mono hb7.size)⟩
set_option maxHeartbeats 4000000 in
set_option maxRecDepth 100000 in
theorem tempty_walk (ap : Option Addr) (len cap : Nat) (tr : Bool) (w : World) (hg : Glob w) (hrow : RowActs w ap len) :
    Calls Tryz.prog 6 #[.slice ap len cap, .bool tr] w fun e w' => e = .returned (.bool true) ∧ Below w.heap.size w w' := by
  have HROW := Lib.hid hrow
  have HW := Lib.hid (twakes_any w hg)
  have HR : Hid (∀ w1, Below w.heap.size w w1 → Calls Tryz.prog 9 #[.int .i64 2048] w1 fun e w' => ∃ s d F V, e = .returned (.pointer (some ⟨s, 0, none⟩)) ∧ SIn w w' s d F 2048 V V 5000 ∧ (∀ b, F b → b < w'.heap.size) ∧ Shows 2048 V TS0) := fun w1 hB => room_any (w0 := w) (w := w1) 2048 (by omega) (by omega) hB hg
  clear hrow hg
  go_enter Tryz.func6, Tryz.ntmps6
  go_wp2_with fail
  refine HW.out.mono ?_
  rintro e w1 ⟨rfl, hB⟩
  have hr := HR.out w1 hB
  clear hB HW HR
  go_wp2_with fail
  refine hr.mono ?_
  rintro e w2 ⟨s, d, F2, V2, rfl, hS, hF, hV⟩
  have HS := Lib.hid hS
  obtain ⟨S1, root, hnew, hT, hE⟩ := new_tree (f := (jFirst 2048).toNat) (S := TS0) (m := spMany 2048) (by rw [cnt0, many2048]; omega)
  have hN := tnew_any hS hF hV root hnew (by omega)
  have HT := Lib.hid hT
  have hcc : cntM (spMany 2048) S1 = 1 := by
    have := hE.cnt
    rw [cnt0] at this
    simpa using this
  have HC := Lib.hid hcc
  clear hcc hS hF hV hT hE hnew hr
  by_cases hbig : 300 < len
  · have zb : (300 : Int) < (len : Int) := by omega
    clear hN
    go_wp2
    go_ret
    exact ⟨rfl, HS.out.below⟩
  · have zb : ¬ (300 : Int) < (len : Int) := by omega
    go_wp2_with fail
    refine hN.mono ?_
    rintro e w3 ⟨F3, V3, rfl, hst, hV3⟩
    have H3 := Lib.hid (TIn.at_new hst.sin hst.lt hV3 root)
    have ha := at_any (s := s) root w3
    clear hN hst hV3
    go_wp2_with fail
    refine ha.mono ?_
    rintro e w4 ⟨rfl, hw4⟩
    have h4 := H3.out
    rw [← hw4] at h4
    have HP0 : Hid (PLoop w w4 s d w3.heap.size root V2 w4.heap.size none 0 [] 0) := ⟨F3, V3, S1, [root], ⟨by simpa using h4, by simpa using HT.out⟩, ⟨EOwn.nil _ _, fun b hb => by simp [Value.ownBlock] at hb⟩, HC.out⟩
    clear ha hw4 h4 H3 HT HC HS
    generalize w3.heap.size = t at *
    go_wp2
    go_loopw [9, 41] (fun u v wr => ∃ (k : Nat) (ao : Option Addr) (c : Nat) (l : List Ent), u = .slice ao l.length c ∧ v = .int .i64 k ∧ k ≤ len ∧ Hid (PLoop w wr s d t root V2 w4.heap.size ao c l k) ∧ w4.heap.size ≤ wr.heap.size) (fun _ v _ => len - (intOf v).toNat)
    case atStart => exact ⟨0, none, 0, [], rfl, rfl, Nat.zero_le _, HP0, Nat.le_refl _⟩
    case round =>
      obtain ⟨k, ao, c, l, rfl, rfl, hk, HP, hsz⟩ := hrel
      by_cases hlt : k < len
      · obtain ⟨b, off, kk, nn, key, value, rfl, hbl, hc0, hw0, hc1, hc2, hc3⟩ := HROW.out k hlt
        have hbel := HP.out.below
        have g0 : wr.cell? ⟨b, off + k * 4, none⟩ = some (.int .i64 kk) := (hbel.cell (p := ⟨b, off + k * 4, none⟩) hbl).trans hc0
        have g1 : wr.cell? ⟨b, off + k * 4 + 1, none⟩ = some (.string key) := (hbel.cell (p := ⟨b, off + k * 4 + 1, none⟩) hbl).trans hc1
        have g2 : wr.cell? ⟨b, off + k * 4 + 2, none⟩ = some (.string value) := (hbel.cell (p := ⟨b, off + k * 4 + 2, none⟩) hbl).trans hc2
        have g3 : wr.cell? ⟨b, off + k * 4 + 3, none⟩ = some (.int .i64 nn) := (hbel.cell (p := ⟨b, off + k * 4 + 3, none⟩) hbl).trans hc3
        have HX := HP.out.does hsz (by omega) kk nn key value hw0
        clear hbel hc0 hc1 hc2 hc3 HP HP0
        unfold actV at HX
        go_wp2_with fail
        refine HX.mono ?_
        rintro e w5 ⟨a2, c2, rfl, hP2, hsz2⟩
        have HP2 := Lib.hid hP2
        clear HX hP2 g0 g1 g2 g3
        generalize actL kk key value l = l2 at *
        go_wp2
        go_roundw
        case rel => exact ⟨k + 1, a2, c2, l2, rfl, by go_num, by omega, HP2, by omega⟩
        case measure => simp [intOf]; omega
      · obtain rfl : k = len := by omega
        have HE0 := Lib.hid (HP.out.e (by omega))
        have hlen : l.length ≤ 15000 := by
          obtain ⟨F, V, S, P, hT, -⟩ := HE0.out
          have := hT.tl.len
          omega
        have hasc : ascP l := by
          obtain ⟨F, V, S, P, hT, -⟩ := HE0.out
          exact hT.tl.asc
        have HEND : Hid (∀ wq, ELoop w wq s d t root V2 w4.heap.size ao c l (restE tr l l.length) l.length → Calls Tryz.prog 13 #[.pointer (some ⟨t, 0, none⟩), .string ⟨#[]⟩, .int .i64 1] wq fun e w5 => ∃ aX cX, e = .returned (.tuple #[.slice aX 0 cX, .int .i64 0]) ∧
            Calls Tryz.prog 24 #[.pointer (some ⟨s, 0, none⟩)] w5 fun e w6 => ∃ a cap, e = .returned (.slice a 1 cap) ∧ ∀ w7 g c7, Below w6.heap.size w6 w7 → w7.cell? ⟨g, 0, none⟩ = some (.int .i64 root) → g < w7.heap.size →
              Calls Tryz.prog 22 #[.slice a 1 cap, .slice (some ⟨g, 0, none⟩) 1 c7] w7 fun e w8 => e = .returned (.bool true) ∧ Below w.heap.size w w8) := fun wq hq => by
          rw [rest_end] at hq
          exact hq.last (by omega)
        have HE1 : Hid (ELoop w wr s d t root V2 w4.heap.size ao c l (restE tr l 0) 0) := by
          have := HE0.out
          rw [rest_start]
          exact this
        cases tr with
        | false =>
          have HST : Hid (∀ i, i < l.length → ∃ (j : Nat), j = i ∧ j < l.length ∧ ∀ wq, ELoop w wq s d t root V2 w4.heap.size ao c l (restE false l i) i → ∃ g key, ao = some ⟨g, 0, none⟩ ∧ l.length ≤ c ∧ wq.cell? ⟨g, j * 2, none⟩ = some (.string key) ∧
              Calls Tryz.prog 16 #[.pointer (some ⟨t, 0, none⟩), .string key] wq fun e w' => e = .returned (.tuple #[.bool true, .int .i64 0]) ∧ ELoop w w' s d t root V2 w4.heap.size ao c l (restE false l (i + 1)) (i + 1)) := fun i hi => by
            obtain ⟨hk, h1, h2⟩ := rest_step hasc false hi
            refine ⟨restI false l.length i, rfl, hk, fun wq hq => ?_⟩
            obtain ⟨g, e1, e2, e3⟩ := hq.row hk
            refine ⟨g, _, e1, e2, e3, ?_⟩
            have := hq.del (by omega) _ h1
            rw [h2] at this
            exact this
          clear HP HP0 HROW HE0 hasc
          generalize hq : l.length = q at *
          clear hq
          go_wp2
          go_loopw [57] (fun v wq => ∃ (i : Nat), v = .int .i64 i ∧ i ≤ q ∧ Hid (ELoop w wq s d t root V2 w4.heap.size ao c l (restE false l i) i)) (fun v _ => q - (intOf v).toNat)
          case atStart => exact ⟨0, rfl, Nat.zero_le _, HE1⟩
          case round =>
            obtain ⟨i, rfl, hi, HQ⟩ := hrel
            by_cases hlt2 : i < q
            · obtain ⟨j, j4, j3, hst⟩ := HST.out i hlt2
              obtain ⟨g, key, rfl, hlc, d0, hdel⟩ := hst _ HQ.out
              have z1 : (q : Int) ≤ (c : Int) := by omega
              have z2 : (j : Int) < (q : Int) := by omega
              clear hst HQ HE1 HST HEND
              have j5 := j4.symm
              subst j5
              go_wp2_with fail
              refine hdel.mono ?_
              rintro e w6 ⟨rfl, hE6⟩
              have HE6 := Lib.hid hE6
              clear hdel hE6 d0
              go_wp2
              go_roundw
              case rel => exact ⟨i + 1, by go_num, by omega, HE6⟩
              case measure => simp [intOf]; omega
            · obtain rfl : q = i := by omega
              have hend := HEND.out _ HQ.out
              clear HQ HE1 HST HEND
              go_wp2_with fail
              refine hend.mono ?_
              rintro e w5 ⟨aX, cX, rfl, htk⟩
              clear hend
              go_wp2_with fail
              refine htk.mono ?_
              rintro e w6 ⟨a, cap6, rfl, hsm⟩
              have hB7 : Below w6.heap.size w6 (w6.alloc (.cells #[.int .i64 (root : Nat)] 3)) := (Below.refl _ w6).alloc (Nat.le_refl _) _
              have hs7 := hsm (w6.alloc (.cells #[.int .i64 (root : Nat)] 3)) w6.heap.size 1 hB7 (by rw [cell_of (heap_alloc_new' w6 _)]; rfl) (by simp)
              clear htk hsm hB7
              go_wp2_with (go_at_call 22; refine hs7.mono ?_; rintro e w8 ⟨rfl, hB8⟩)
              go_ret
              exact ⟨rfl, hB8⟩
        | true =>
          have HST : Hid (∀ i, i < l.length → ∃ (j : Nat), (l.length : Int) - 1 - (i : Int) = (j : Int) ∧ j < l.length ∧ ∀ wq, ELoop w wq s d t root V2 w4.heap.size ao c l (restE true l i) i → ∃ g key, ao = some ⟨g, 0, none⟩ ∧ l.length ≤ c ∧ wq.cell? ⟨g, j * 2, none⟩ = some (.string key) ∧
              Calls Tryz.prog 16 #[.pointer (some ⟨t, 0, none⟩), .string key] wq fun e w' => e = .returned (.tuple #[.bool true, .int .i64 0]) ∧ ELoop w w' s d t root V2 w4.heap.size ao c l (restE true l (i + 1)) (i + 1)) := fun i hi => by
            obtain ⟨hk, h1, h2⟩ := rest_step hasc true hi
            refine ⟨restI true l.length i, (by simp only [restI, if_true]; omega), hk, fun wq hq => ?_⟩
            obtain ⟨g, e1, e2, e3⟩ := hq.row hk
            refine ⟨g, _, e1, e2, e3, ?_⟩
            have := hq.del (by omega) _ h1
            rw [h2] at this
            exact this
          clear HP HP0 HROW HE0 hasc
          generalize hq : l.length = q at *
          clear hq
          go_wp2
          go_loopw [57] (fun v wq => ∃ (i : Nat), v = .int .i64 i ∧ i ≤ q ∧ Hid (ELoop w wq s d t root V2 w4.heap.size ao c l (restE true l i) i)) (fun v _ => q - (intOf v).toNat)
          case atStart => exact ⟨0, rfl, Nat.zero_le _, HE1⟩
          case round =>
            obtain ⟨i, rfl, hi, HQ⟩ := hrel
            by_cases hlt2 : i < q
            · obtain ⟨j, j4, j3, hst⟩ := HST.out i hlt2
              obtain ⟨g, key, rfl, hlc, d0, hdel⟩ := hst _ HQ.out
              have z1 : (q : Int) ≤ (c : Int) := by omega
              have z2 : (j : Int) < (q : Int) := by omega
              clear hst HQ HE1 HST HEND
              go_wp2_with fail
              refine hdel.mono ?_
              rintro e w6 ⟨rfl, hE6⟩
              have HE6 := Lib.hid hE6
              clear hdel hE6 d0
              go_wp2
              go_roundw
              case rel => exact ⟨i + 1, by go_num, by omega, HE6⟩
              case measure => simp [intOf]; omega
            · obtain rfl : q = i := by omega
              have hend := HEND.out _ HQ.out
              clear HQ HE1 HST HEND
              go_wp2_with fail
              refine hend.mono ?_
              rintro e w5 ⟨aX, cX, rfl, htk⟩
              clear hend
              go_wp2_with fail
              refine htk.mono ?_
              rintro e w6 ⟨a, cap6, rfl, hsm⟩
              have hB7 : Below w6.heap.size w6 (w6.alloc (.cells #[.int .i64 (root : Nat)] 3)) := (Below.refl _ w6).alloc (Nat.le_refl _) _
              have hs7 := hsm (w6.alloc (.cells #[.int .i64 (root : Nat)] 3)) w6.heap.size 1 hB7 (by rw [cell_of (heap_alloc_new' w6 _)]; rfl) (by simp)
              clear htk hsm hB7
              go_wp2_with (go_at_call 22; refine hs7.mono ?_; rintro e w8 ⟨rfl, hB8⟩)
              go_ret
              exact ⟨rfl, hB8⟩
end Go.Proofs.YtmgcaohpbaiiaaaGreatDoor
