/- journal.list: the blocks of the list. -/
import Derived.Test.YtdoankamaobkoaaGreatDoorNum
import Derived.Laws.OwnMore
import Derived.RangeFuncBox
import Derived.OwnWalk
set_option linter.unusedSimpArgs false
set_option linter.unusedVariables false
namespace Go.Proofs.YtdoankamaobkoaaGreatDoor
open Go.RowKit Go.Maps Go.Shelf

/-- an append whose run is known -/
theorem wpList_append_run {P : Program} {w w' : World} {v v' x : Value} {ops : Array Oper} {rest : List Oper} {o : Oper} {a : Act} {Q : Exit → Act → World → Prop} {s y : Operand} {t ty : TypeId} (hr : (Builtin.append_ #[t, t] ty #[v, x]).run P w = .ok v' w') (hgd : o.guard = none) (hty : o.type = ty)
    (ho : o.op = .call { callee := .builtin .append, args := #[s, y], argTypes := #[t, t] }) (hs : a.eval s = v) (hy : a.eval y = x)
    (h : wpList P ops Q rest (a.put o.dst v') w') : wpList P ops Q (o :: rest) a w :=
  wpList_plain hgd fun _ hK => by
    subst hty
    unfold Oper.wp execOp
    simp only [ho, resolve, invoke, builtin, Sem.run_bind, Sem.run_pure, Result.andThen_ok, List.map_toArray, List.map_cons, List.map_nil, hs, hy, hr]
    exact hK _ _ h

/-- a slice of pages: what its cells hold -/
def PagesIn (w : World) (a : Option Addr) (l : List (Int × ByteArray)) : Prop :=
  ∃ g, (l ≠ [] → a = some ⟨g, 0, none⟩) ∧ g < w.heap.size ∧ ∀ i, i < l.length → w.cell? ⟨g, i * 2, none⟩ = some (.int .i64 (l.getD i (0, ⟨#[]⟩)).1) ∧ w.cell? ⟨g, i * 2 + 1, none⟩ = some (.string (l.getD i (0, ⟨#[]⟩)).2)

theorem info_page : (Tryz.prog.info? 112).map (fun i => (i.zero, i.size, i.bytes)) = some (some (.agg #[.int .i64 0, .string ⟨#[]⟩]), 2, 24) := by kernel_rfl

/-- the r-th block's numbers, of the first k pages -/
def jRow (l : List (Int × ByteArray)) (k r : Nat) : ByteArray :=
  (List.range (min 128 (k - 128 * r))).foldl (fun s i => s ++ putB (l.getD (128 * r + i) (0, ⟨#[]⟩)).1.toNat 2) ⟨#[]⟩
def jRaw (l : List (Int × ByteArray)) (k : Nat) : List ByteArray := (List.range ((k + 127) / 128)).map (jRow l k)
def jList (l : List (Int × ByteArray)) : List ByteArray := (jRaw l l.length).map fill

theorem jRaw_length (l : List (Int × ByteArray)) (k : Nat) : (jRaw l k).length = (k + 127) / 128 := by simp [jRaw]
theorem foldPut_size (f : Nat → Nat) : ∀ (m : Nat) , ((List.range m).foldl (fun s i => s ++ putB (f i) 2) ⟨#[]⟩).size = 2 * m := by
  intro m
  induction m with
  | zero => rfl
  | succ m ih => rw [List.range_succ, List.foldl_append]; simp only [List.foldl_cons, List.foldl_nil]; rw [ByteArray.size_append, ih, putB_size]; omega
theorem jRow_size (l : List (Int × ByteArray)) (k r : Nat) : (jRow l k r).size = 2 * min 128 (k - 128 * r) := foldPut_size (fun i => (l.getD (128 * r + i) (0, ⟨#[]⟩)).1.toNat) _
theorem jRow_full (l : List (Int × ByteArray)) {k r : Nat} (h : 128 * r + 128 ≤ k) : jRow l (k + 1) r = jRow l k r := by
  unfold jRow
  rw [show min 128 (k + 1 - 128 * r) = min 128 (k - 128 * r) by omega]
theorem jRow_more (l : List (Int × ByteArray)) (k : Nat) : jRow l (k + 1) (k / 128) = jRow l k (k / 128) ++ putB (l.getD k (0, ⟨#[]⟩)).1.toNat 2 := by
  unfold jRow
  rw [show min 128 (k + 1 - 128 * (k / 128)) = k % 128 + 1 by omega, show min 128 (k - 128 * (k / 128)) = k % 128 by omega, List.range_succ, List.foldl_append]
  simp only [List.foldl_cons, List.foldl_nil]
  rw [show 128 * (k / 128) + k % 128 = k by omega]
theorem jRow_none (l : List (Int × ByteArray)) {k : Nat} (h : k % 128 = 0) : jRow l k (k / 128) = ⟨#[]⟩ := by
  unfold jRow
  rw [show min 128 (k - 128 * (k / 128)) = 0 by omega]
  rfl
/-- the rows when one page more is told: a new row is begun where the last is full -/
def jBegun (l : List (Int × ByteArray)) (k : Nat) : List ByteArray := if k % 128 = 0 then jRaw l k ++ [⟨#[]⟩] else jRaw l k
theorem jBegun_length (l : List (Int × ByteArray)) (k : Nat) : (jBegun l k).length = k / 128 + 1 := by
  unfold jBegun
  split
  · rw [List.length_append, jRaw_length]; simp; omega
  · rw [jRaw_length]; omega
theorem jBegun_get (l : List (Int × ByteArray)) (k r : Nat) (hr : r < k / 128 + 1) : (jBegun l k)[r]? = some (jRow l k r) := by
  unfold jBegun
  split
  · rename_i h
    by_cases h2 : r < k / 128
    · rw [List.getElem?_append_left (by rw [jRaw_length]; omega)]
      simp [jRaw, show r < (k + 127) / 128 by omega]
    · have he : r = k / 128 := by omega
      rw [List.getElem?_append_right (by rw [jRaw_length]; omega), jRaw_length, show r - (k + 127) / 128 = 0 by omega, he, jRow_none l h]
      rfl
  · simp [jRaw, show r < (k + 127) / 128 by omega]
theorem jRaw_succ (l : List (Int × ByteArray)) (k : Nat) : jRaw l (k + 1) = (jBegun l k).set (k / 128) (jRow l k (k / 128) ++ putB (l.getD k (0, ⟨#[]⟩)).1.toNat 2) := by
  apply List.ext_getElem?
  intro r
  rw [List.getElem?_set, jBegun_length]
  by_cases hr : r < k / 128 + 1
  · have h1 : (jRaw l (k + 1))[r]? = some (jRow l (k + 1) r) := by simp [jRaw, show r < (k + 1 + 127) / 128 by omega]
    rw [h1]
    by_cases he : k / 128 = r
    · subst he
      rw [if_pos rfl, if_pos hr, jRow_more]
    · rw [if_neg he, jBegun_get l k r hr, jRow_full l (by omega)]
  · have h1 : (jRaw l (k + 1))[r]? = none := List.getElem?_eq_none (by rw [jRaw_length]; omega)
    rw [h1, if_neg (by omega)]
    exact (List.getElem?_eq_none (by rw [jBegun_length]; omega)).symm

/-- the rows when the first i are filled -/
def filledTo (raw : List ByteArray) (i : Nat) : List ByteArray := (raw.take i).map fill ++ raw.drop i
theorem filledTo_zero (raw : List ByteArray) : filledTo raw 0 = raw := by simp [filledTo]
theorem filledTo_all (raw : List ByteArray) : filledTo raw raw.length = raw.map fill := by simp [filledTo]
theorem filledTo_get (raw : List ByteArray) {i : Nat} (h : i < raw.length) : (filledTo raw i)[i]? = some (raw.getD i ⟨#[]⟩) := by
  unfold filledTo
  rw [List.getElem?_append_right (by simp; omega)]
  have : (List.map fill (List.take i raw)).length = i := by simp; omega
  rw [this]
  simp [h]
theorem filledTo_succ (raw : List ByteArray) {i : Nat} (h : i < raw.length) : filledTo raw (i + 1) = (filledTo raw i).set i (fill (raw.getD i ⟨#[]⟩)) := by
  unfold filledTo
  have hl : (List.map fill (List.take i raw)).length = i := by simp; omega
  rw [List.set_append_right _ _ (by omega), hl, Nat.sub_self, List.drop_eq_getElem_cons h, List.set_cons_zero, List.take_succ_eq_append_getElem h, List.map_append, List.append_assoc]
  simp [h]

set_option maxRecDepth 100000 in
set_option maxHeartbeats 2000000 in
theorem list_any (a : Option Addr) (cap : Nat) (l : List (Int × ByteArray)) (w : World) (hl : PagesIn w a l) (hn : l.length ≤ 4096) (hat : ∀ q ∈ l, 0 ≤ q.1 ∧ q.1 < 65536) :
    Calls Tryz.prog 107 #[.slice a l.length cap] w fun e w' => ∃ v, e = .returned v ∧ w'.ownsRow w.heap.size 9 1 v (jList l).length ((jList l).map Value.string) ∧ Below w.heap.size w w' := by
  obtain ⟨g, ha, hg, hcell⟩ := hl
  have HC := Lib.hid hcell
  have HA := Lib.hid ha
  have HAT := Lib.hid hat
  clear hcell ha hat
  obtain ⟨n, hnl⟩ : ∃ n, n = l.length := ⟨_, rfl⟩
  have hJ : jList l = (jRaw l n).map fill := by unfold jList; rw [hnl]
  have hraw : (jRaw l n).length = (n + 127) / 128 := jRaw_length l n
  have hsz : ∀ s ∈ jRaw l n, s.size ≤ 256 := by
    intro s hs
    obtain ⟨r, _, rfl⟩ := List.mem_map.1 hs
    rw [jRow_size]; omega
  rw [hJ]
  obtain ⟨raw, HRAW⟩ : ∃ raw, Hid (jRaw l n = raw) := ⟨_, Lib.hid rfl⟩
  rw [HRAW.out] at hraw hsz ⊢
  have HSZ := Lib.hid hsz
  rw [← hnl] at hn ⊢
  have HN := Lib.hid hnl
  clear hnl hJ hsz
  go_enter Tryz.func107, Tryz.ntmps107
  go_wp2
  go_loopw [3, 12] (fun v u wr => ∃ (j : Nat) (ao : Option Addr) (m co : Nat), v = .slice ao m co ∧ u = .int .i64 j ∧ j ≤ n ∧ m = (j + 127) / 128 ∧ Hid (wr.ownsRow w.heap.size 9 1 (.slice ao m co) m ((jRaw l j).map Value.string)) ∧ Below w.heap.size w wr) (fun _ u _ => n - (intOf u).toNat)
  case atStart => exact ⟨0, none, 0, 0, rfl, rfl, by omega, by omega, World.ownsRow_nil _ _ _ _, Below.refl _ w⟩
  case round =>
    obtain ⟨j, ao, m, co, rfl, rfl, hj, hm, HR, hB⟩ := hrel
    by_cases hlt : j < n
    · have hlt' : j < l.length := by rw [← HN.out]; exact hlt
      obtain ⟨c0, c1⟩ := HC.out j hlt'
      have hb0 := hB.cell (p := ⟨g, j * 2, none⟩) hg
      have hb1 := hB.cell (p := ⟨g, j * 2 + 1, none⟩) hg
      rw [c0] at hb0
      rw [c1] at hb1
      have hxx := HAT.out (l.getD j (0, ⟨#[]⟩)) (by rw [List.getD_eq_getElem?_getD, List.getElem?_eq_getElem hlt']; exact List.getElem_mem _)
      obtain ⟨x, hx⟩ := Int.eq_ofNat_of_zero_le hxx.1
      have HX : Hid ((l.getD j (0, ⟨#[]⟩)).1.toNat = x) := by show _ = _; rw [hx]; simp
      rw [hx] at hb0 hxx
      have hx2 : x < 65536 := by omega
      generalize (l.getD j (0, ⟨#[]⟩)).2 = sx at *
      clear c0 c1 hx hxx
      have hae : a = some ⟨g, 0, none⟩ := HA.out (by intro h; rw [h] at hlt'; simp at hlt')
      subst hae
      -- the row with the new number's place: made, or there
      have hgen : ∀ (W : World) (ao2 : Option Addr) (co2 : Nat), W.ownsRow w.heap.size 9 1 (.slice ao2 (j / 128 + 1) co2) (j / 128 + 1) ((jBegun l j).map Value.string) →
          ∃ g2 : Nat, ao2 = some ⟨g2, 0, none⟩ ∧ w.heap.size ≤ g2 ∧ g2 < W.heap.size ∧ ∀ W', Below W.heap.size W W' → W'.cell? ⟨g2, j / 128, none⟩ = some (.string (jRow l j (j / 128))) ∧ W'.frozen? ⟨g2, j / 128, none⟩ = false ∧
            Hid ((W'.setCell ⟨g2, j / 128, none⟩ (.string (jRow l j (j / 128) ++ putB x 2))).ownsRow w.heap.size 9 1 (.slice (some ⟨g2, 0, none⟩) (j / 128 + 1) co2) (j / 128 + 1) ((jRaw l (j + 1)).map Value.string)) := by
        intro W ao2 co2 hown
        obtain ⟨g2, cap2, he⟩ := ownsRow_succ hown
        simp only [Value.slice.injEq, true_and] at he
        obtain ⟨rfl, rfl⟩ := he
        have hlt2 := hown.lt g2 rfl
        refine ⟨g2, rfl, hlt2.1, hlt2.2, fun W' hB' => ?_⟩
        have hown' := hown.kept (w' := W') (row := none) ⟨hB'.os, hB'.tape, hB'.output, hB'.size, fun k hk _ => hB'.block k hk⟩ (.inr (by simp [Value.ownBlock]))
        refine ⟨?_, hown'.frozenAt _, ?_⟩
        · rw [hown'.cellAt _ (by omega), List.getElem?_map, jBegun_get l j _ (by omega)]; rfl
        · have hs := (hown'.stored (j / 128) (.string (jRow l j (j / 128) ++ putB x 2))).1
          rw [jRaw_succ, HX.out, List.map_set]
          exact hs
      have HG := Lib.hid hgen
      clear hgen
      by_cases hz : j % 128 = 0
      · have hm2 : m = j / 128 := by omega
        subst hm2
        have hbeg : jBegun l j = jRaw l j ++ [⟨#[]⟩] := if_pos hz
        obtain ⟨i0, hi, hz0, hz1, hz2⟩ := info_parts info_str
        have hs := hB.size
        obtain ⟨v3, w3, hr, hown3, hgr, hnil⟩ := run_append_own (P := Tryz.prog) ((wr.alloc (.cells #[.int .i64 x, .string sx] 112)).alloc (.cells #[.string ⟨#[]⟩] 9)) w.heap.size 79 79 9 i0 (.string ⟨#[]⟩) 1 16 Tryz.underlying79 hi hz0 hz1 hz2 rfl (by omega)
          (.slice ao (j / 128) co) (j / 128) ((jRaw l j).map Value.string) ((HR.out.alloc _).alloc _) ⟨wr.heap.size + 1, 0, none⟩ 1 1 [.string ⟨#[]⟩] rfl (by
            intro k u hk
            cases k with
            | zero => simp at hk; subst hk; have := cell_new (wr.alloc (.cells #[.int .i64 x, .string sx] 112)) #[.string ⟨#[]⟩] 9 0; simp [Addr.add] at this ⊢
            | succ k => simp at hk) (by simp [Value.oneCell']) (by unfold maxLen; omega) (by omega) (by simp; omega)
        have hbw3 : Below wr.heap.size wr w3 ∨ True := .inr trivial
        have hlen3 : ((jRaw l j).map Value.string ++ [Value.string ⟨#[]⟩]) = (jBegun l j).map Value.string := by rw [hbeg]; simp
        rw [hlen3] at hown3
        obtain ⟨g3, cap3, rfl⟩ := ownsRow_succ hown3
        obtain ⟨g2, he2, hg1, hg2, hrest⟩ := HG.out w3 (some ⟨g3, 0, none⟩) cap3 hown3
        obtain rfl : g3 = g2 := by simpa using he2
        have hrow1 : ∀ k, (Value.slice ao (j / 128) co).ownBlock = some k → w.heap.size ≤ k := fun k hk => (HR.out.lt k hk).1
        have hbox : w3.cell? ⟨wr.heap.size, 0, none⟩ = some (.int .i64 x) := by
          refine hgr.cell (a := ⟨wr.heap.size, 0, none⟩) ?_ fun e => ?_
          · have h1 := Below.heap_alloc (wr.alloc (.cells #[.int .i64 x, .string sx] 112)) (.cells #[.string ⟨#[]⟩] 9) wr.heap.size (by simp)
            rw [World.cell?_of_block (a := ⟨wr.heap.size, 0, none⟩) h1, cell_new]; rfl
          · have := (HR.out.lt wr.heap.size e.symm).2; omega
        have hB3 : Below w.heap.size w w3 := ((hB.alloc hs _).alloc (by simp; omega) _).grown hgr (by simp; omega) hrow1
        have HB3 := Lib.hid hB3
        have hs3 : w.heap.size ≤ w3.heap.size := hB3.size
        clear HG HR hbeg hm hi hz0 hz1 hz2 hown3 hgr hnil hbw3 hlen3 hrow1 hB3 he2
        have HRS := Lib.hid hrest
        clear hrest
        have hzb : ((j : Int) % 128 == 0) = true := by simp; omega
        go_wp2_with (at_builtin; refine wpList_append_run hr rfl rfl rfl rfl rfl ?_)
        refine (put_any x 2 _ (by omega) (by omega) (by omega)).mono ?_
        rintro e w4 ⟨rfl, hB4⟩
        obtain ⟨hc, hf, HNEW⟩ := HRS.out w4 hB4
        have hB5 := HB3.out.trans (hB4.mono hs3)
        have HB5 := Lib.hid hB5
        have hps := putB_size x 2
        have hrs := jRow_size l j (j / 128)
        have hrs2 : (jRow l j (j / 128)).size ≤ 256 := by omega
        clear hB4 HRS hB5 hb0 hb1 hrs hr
        generalize putB x 2 = pb at *
        generalize jRow l j (j / 128) = rw0 at *
        have hdv : (j : Int) / 128 + 1 - 1 = ((j / 128 : Nat) : Int) := by omega
        have hqe : (j + 1 + 127) / 128 = j / 128 + 1 := by omega
        generalize hq : j / 128 = q at *
        go_wp2
        go_roundw
        case rel => exact ⟨j + 1, _, _, _, rfl, rfl, by omega, hqe.symm, HNEW, HB5.out.setCell hg1 _⟩
        case measure => simp [intOf]; omega
      · have hm2 : m = j / 128 + 1 := by omega
        subst hm2
        have hbeg : jBegun l j = jRaw l j := if_neg hz
        obtain ⟨g2, rfl, hg1, hg2, hrest⟩ := HG.out wr ao co (by rw [hbeg]; exact HR.out)
        clear HG HR hbeg hm
        have HRS := Lib.hid hrest
        clear hrest
        have hzb : ((j : Int) % 128 == 0) = false := by simp; omega
        go_wp2_with fail
        refine (put_any x 2 _ (by omega) (by omega) (by omega)).mono ?_
        rintro e w4 ⟨rfl, hB4⟩
        obtain ⟨hc, hf, HNEW⟩ := HRS.out w4 (((Below.refl _ wr).alloc (Nat.le_refl _) _).trans (hB4.mono (by simp)))
        have hB5 := hB.trans (((Below.refl _ wr).alloc (Nat.le_refl _) _).trans (hB4.mono (by simp)) |>.mono hB.size)
        have HB5 := Lib.hid hB5
        have hps := putB_size x 2
        have hrs := jRow_size l j (j / 128)
        have hrs2 : (jRow l j (j / 128)).size ≤ 256 := by omega
        clear hB4 HRS hB5 hb0 hb1 hrs
        generalize putB x 2 = pb at *
        generalize jRow l j (j / 128) = rw0 at *
        have hdv : (j : Int) / 128 + 1 - 1 = ((j / 128 : Nat) : Int) := by omega
        have hqe : (j + 1 + 127) / 128 = j / 128 + 1 := by omega
        generalize hq : j / 128 = q at *
        go_wp2
        go_roundw
        case rel => exact ⟨j + 1, _, _, _, rfl, rfl, by omega, hqe.symm, HNEW, HB5.out.setCell hg1 _⟩
        case measure => simp [intOf]; omega
    · obtain rfl : j = n := by omega
      rw [HRAW.out] at HR
      obtain rfl : m = raw.length := by omega
      have hbd : raw.length ≤ 64 := by omega
      clear HC HA HAT hm hlt hj hraw HRAW HN
      go_wp2
      go_loopw [42] (fun u wr => ∃ i : Nat, u = .int .i64 i ∧ i ≤ raw.length ∧ Hid (wr.ownsRow w.heap.size 9 1 (.slice ao raw.length co) raw.length ((filledTo raw i).map Value.string)) ∧ Below w.heap.size w wr) (fun u _ => raw.length - (intOf u).toNat)
      case atStart => exact ⟨0, rfl, by omega, by rw [filledTo_zero]; exact HR, hB⟩
      case round =>
        obtain ⟨i, rfl, hi, HR2, hB2⟩ := hrel
        by_cases hlt : i < raw.length
        · have hown := HR2.out
          obtain ⟨g2, rfl⟩ : ∃ g2, ao = some ⟨g2, 0, none⟩ := by
            rcases hown.2 with ⟨h, h0⟩ | ⟨g2, cap2, cur, h, _⟩
            · omega
            · simp only [Value.slice.injEq] at h; exact ⟨g2, h.1⟩
          obtain ⟨hg1, hg2⟩ := hown.lt g2 rfl
          have hget := filledTo_get raw hlt
          have hc := hown.cellAt i (by omega)
          rw [List.getElem?_map, hget] at hc
          have hsi : (raw.getD i ⟨#[]⟩).size ≤ 256 := HSZ.out _ (by rw [List.getD_eq_getElem?_getD, List.getElem?_eq_getElem hlt]; exact List.getElem_mem _)
          have HNX : Hid (∀ W', Below wr.heap.size wr W' → W'.frozen? ⟨g2, i, none⟩ = false ∧ W'.cell? ⟨g2, i, none⟩ = some (.string (raw.getD i ⟨#[]⟩)) ∧ Hid ((W'.setCell ⟨g2, i, none⟩ (.string (fill (raw.getD i ⟨#[]⟩)))).ownsRow w.heap.size 9 1 (.slice (some ⟨g2, 0, none⟩) raw.length co) raw.length ((filledTo raw (i + 1)).map Value.string))) := by
            intro W' hB'
            have hown' := hown.kept (w' := W') (row := none) ⟨hB'.os, hB'.tape, hB'.output, hB'.size, fun k hk _ => hB'.block k hk⟩ (.inr (by simp [Value.ownBlock]))
            refine ⟨hown'.frozenAt _, ?_, ?_⟩
            · rw [hown'.cellAt i (by omega), List.getElem?_map, hget]; rfl
            · rw [filledTo_succ raw hlt, List.map_set]
              exact (hown'.stored i _).1
          simp only [Option.map_some] at hc
          generalize raw.getD i ⟨#[]⟩ = sx at *
          clear hown hget HR2
          generalize hM : raw.length = M at *
          go_wp2_with fail
          refine (filled_any sx _ hsi).mono ?_
          rintro e w4 ⟨rfl, hB4⟩
          obtain ⟨hf4, hc4, HNEW⟩ := HNX.out w4 hB4
          have HB4 := Lib.hid (hB2.trans (hB4.mono hB2.size))
          have hfs : (fill sx).size = 256 := padB_size hsi
          clear hc hB4
          generalize fill sx = fs at *
          go_wp2
          go_roundw
          case rel => exact ⟨i + 1, rfl, by omega, HNEW, HB4.out.setCell hg1 _⟩
          case measure => simp [intOf]; omega
        · obtain rfl : i = raw.length := by omega
          rw [filledTo_all] at HR2
          go_wp2
          go_ret
          exact ⟨_, rfl, by rw [List.length_map]; exact HR2.out, hB2⟩
end Go.Proofs.YtdoankamaobkoaaGreatDoor
