/- journal.top: the head's block. -/
import Derived.Test.YtdoankamaobkoaaGreatDoorList
set_option linter.unusedSimpArgs false
set_option linter.unusedVariables false
namespace Go.Proofs.YtdoankamaobkoaaGreatDoor
open Go.RowKit Go.Maps Go.Shelf

def jMark : ByteArray := ⟨#[106, 114, 110, 108]⟩
def jSum (l : List (Int × ByteArray)) : Nat := (l.map (·.2)).foldl mixMore ((jList l).foldl mixMore 1)
def jTop (l : List (Int × ByteArray)) : ByteArray := fill (jMark ++ putB l.length 2 ++ putB (jSum l) 4)
theorem foldMix_lt : ∀ (l : List ByteArray) (s : Nat), s < 4294967296 → l.foldl mixMore s < 4294967296
  | [], s, h => h
  | x :: r, s, h => foldMix_lt r _ (mixMore_lt s x)
theorem jSum_lt (l : List (Int × ByteArray)) : jSum l < 4294967296 := foldMix_lt _ _ (foldMix_lt _ _ (by decide))
theorem jTop_size (l : List (Int × ByteArray)) : (jTop l).size = 256 := by
  refine padB_size ?_
  rw [ByteArray.size_append, ByteArray.size_append, putB_size, putB_size]
  decide
theorem jList_sizes (l : List (Int × ByteArray)) : ∀ s ∈ jList l, s.size = 256 := by
  intro s hs
  obtain ⟨x, hx, rfl⟩ := List.mem_map.1 hs
  obtain ⟨r, _, rfl⟩ := List.mem_map.1 hx
  refine padB_size ?_
  rw [jRow_size]; omega
theorem jList_length (l : List (Int × ByteArray)) : (jList l).length = (l.length + 127) / 128 := by rw [jList, List.length_map, jRaw_length]

set_option maxRecDepth 100000 in
set_option maxHeartbeats 2000000 in
theorem top_any (a : Option Addr) (cap : Nat) (l : List (Int × ByteArray)) (w : World) (hl : PagesIn w a l) (hn : l.length ≤ 4096) (hat : ∀ q ∈ l, 0 ≤ q.1 ∧ q.1 < 65536) (hsz : ∀ q ∈ l, q.2.size ≤ 65536) :
    Calls Tryz.prog 108 #[.slice a l.length cap] w fun e w' => e = .returned (.string (jTop l)) ∧ Below w.heap.size w w' := by
  have HL := Lib.hid (list_any a cap l w hl hn hat)
  obtain ⟨g, ha, hg, hcell⟩ := hl
  have HC := Lib.hid hcell
  have HA := Lib.hid ha
  have HS := Lib.hid hsz
  have hT : jTop l = fill (jMark ++ putB l.length 2 ++ putB (jSum l) 4) := rfl
  obtain ⟨sum, HSUM⟩ : ∃ sum, Hid (jSum l = sum) := ⟨_, Lib.hid rfl⟩
  have hslt := jSum_lt l
  rw [hT]
  rw [HSUM.out] at hslt ⊢
  have HSUM2 : Hid ((l.map (·.2)).foldl mixMore ((jList l).foldl mixMore 1) = sum) := HSUM.out
  have hjl := jList_length l
  have HJS := Lib.hid (jList_sizes l)
  obtain ⟨n, hnl⟩ : ∃ n, n = l.length := ⟨_, rfl⟩
  obtain ⟨rows, hrows⟩ : ∃ rows, jList l = rows := ⟨_, rfl⟩
  rw [hrows] at HL HSUM2 HJS hjl
  rw [← hnl] at hn HL hjl ⊢
  have HN := Lib.hid hnl
  have HP2 : Hid (∃ p2, putB n 2 = p2) := ⟨_, rfl⟩
  clear hcell ha hat hT HSUM hnl hsz hrows
  have hrl : rows.length ≤ 64 := by omega
  clear hjl
  go_enter Tryz.func108, Tryz.ntmps108
  go_wp2_with fail
  refine HL.out.mono ?_
  rintro e w1 ⟨v, rfl, hown, hB1⟩
  obtain ⟨ao, co, rfl⟩ := ownsRow_slice hown
  have HOWN := Lib.hid hown
  have HB1 := Lib.hid hB1
  have hs1 := hB1.size
  clear hown hB1 HL
  go_wp2
  go_loopw [3, 15] (fun u v wr => ∃ (i s : Nat), u = .int .u32 s ∧ v = .int .i64 i ∧ i ≤ rows.length ∧ s < 4294967296 ∧ Hid ((rows.drop i).foldl mixMore s = rows.foldl mixMore 1) ∧ wr = w1) (fun _ v _ => rows.length - (intOf v).toNat)
  case atStart => exact ⟨0, 1, rfl, rfl, by omega, by omega, Lib.hid (by rw [List.drop_zero]), rfl⟩
  case round =>
    obtain ⟨i, s, rfl, rfl, hi, hs, HF, rfl⟩ := hrel
    by_cases hlt : i < rows.length
    · obtain ⟨g2, rfl⟩ : ∃ g2, ao = some ⟨g2, 0, none⟩ := by
        rcases HOWN.out.2 with ⟨h, h0⟩ | ⟨g2, cap2, cur, h, _⟩
        · omega
        · simp only [Value.slice.injEq] at h; exact ⟨g2, h.1⟩
      have hc := HOWN.out.cellAt i (by omega)
      rw [List.getElem?_map, List.getElem?_eq_getElem hlt] at hc
      simp only [Option.map_some] at hc
      have hx : rows[i].size = 256 := HJS.out _ (List.getElem_mem _)
      have HF2 : Hid ((rows.drop (i + 1)).foldl mixMore (mixMore s rows[i]) = rows.foldl mixMore 1) := by
        show _ = _
        rw [← HF.out, List.drop_eq_getElem_cons (i := i) (l := rows) hlt, List.foldl_cons]
      have hms := mixMore_lt s rows[i]
      have hma := more_any s rows[i] wr hs (by omega)
      clear HF
      generalize mixMore s rows[i] = s2 at *
      generalize rows[i] = x at *
      generalize rows.length = M at *
      go_wp2_with (go_at_call 123; refine hma.mono ?_; rintro e w' ⟨rfl, rfl⟩)
      go_roundw
      case rel => exact ⟨i + 1, s2, rfl, rfl, by omega, hms, HF2, trivial⟩
      case measure => simp [intOf]; omega
    · obtain rfl : i = rows.length := by omega
      have hfe : s = rows.foldl mixMore 1 := by rw [← HF.out, List.drop_of_length_le (Nat.le_refl _)]; rfl
      rw [← hfe] at HSUM2
      clear HF hfe hlt hi HOWN HJS
      go_wp2
      go_loopw [3, 25] (fun u v wr' => ∃ (i s : Nat), u = .int .u32 s ∧ v = .int .i64 i ∧ i ≤ n ∧ s < 4294967296 ∧ Hid (((l.drop i).map (·.2)).foldl mixMore s = sum) ∧ Below w.heap.size w wr') (fun _ v _ => n - (intOf v).toNat)
      case atStart => exact ⟨0, s, rfl, rfl, by omega, hs, HSUM2, HB1.out⟩
      case round =>
        obtain ⟨j, s', rfl, rfl, hj, hs', HF, hB⟩ := hrel
        by_cases hlt : j < n
        · have hlt' : j < l.length := by rw [← HN.out]; exact hlt
          obtain ⟨c0, c1⟩ := HC.out j hlt'
          have hb0 := hB.cell (p := ⟨g, j * 2, none⟩) hg
          have hb1 := hB.cell (p := ⟨g, j * 2 + 1, none⟩) hg
          rw [c0] at hb0
          rw [c1] at hb1
          have hge : l.getD j (0, ⟨#[]⟩) = l[j] := by simp [hlt']
          rw [hge] at hb0 hb1
          have hsx := HS.out _ (List.getElem_mem hlt')
          have hae : a = some ⟨g, 0, none⟩ := HA.out (by intro h; rw [h] at hlt'; simp at hlt')
          subst hae
          have HF2 : Hid (((l.drop (j + 1)).map (·.2)).foldl mixMore (mixMore s' l[j].2) = sum) := by
            show _ = _
            rw [← HF.out, List.drop_eq_getElem_cons (i := j) (l := l) hlt', List.map_cons, List.foldl_cons]
          have hms := mixMore_lt s' l[j].2
          have hma := fun W => more_any s' l[j].2 W hs' (by omega)
          have HMA := Lib.hid hma
          clear HF hma c0 c1 hge
          generalize mixMore s' l[j].2 = s2 at *
          generalize l[j].2 = x at *
          generalize l[j].1 = y at *
          go_wp2_with (go_at_call 123; refine (HMA.out _).mono ?_; rintro e w' ⟨rfl, rfl⟩)
          go_roundw
          case rel => exact ⟨j + 1, s2, rfl, rfl, by omega, hms, HF2, hB.alloc hB.size _⟩
          case measure => simp [intOf]; omega
        · obtain rfl : j = n := by omega
          have hfe : s' = sum := by rw [← HF.out, List.drop_of_length_le (by rw [← HN.out]; exact Nat.le_refl _)]; rfl
          subst hfe
          have hp1 := fun W => put_any j 2 W (by omega) (by omega) (by omega)
          have hp2 := fun W => put_any s' 4 W (by omega) (by omega) (by omega)
          have HP1 := Lib.hid hp1
          have HP22 := Lib.hid hp2
          have hz1 := putB_size j 2
          have hz2 := putB_size s' 4
          have hzm : jMark.size = 4 := rfl
          have hsz3 : (jMark ++ putB j 2 ++ putB s' 4).size ≤ 256 := by rw [ByteArray.size_append, ByteArray.size_append]; omega
          have hfill := fun W => filled_any (jMark ++ putB j 2 ++ putB s' 4) W hsz3
          have HFILL := Lib.hid hfill
          clear HF HA HC HS HN HSUM2 hp1 hp2 hfill
          go_wp2_with fail
          refine (HP1.out _).mono ?_
          rintro e w2 ⟨rfl, hB2⟩
          clear HP1
          go_wp2_with fail
          refine (HP22.out _).mono ?_
          rintro e w3 ⟨rfl, hB3⟩
          clear HP22
          go_wp2_with fail
          refine (HFILL.out _).mono ?_
          rintro e w4 ⟨rfl, hB4⟩
          have HX := Lib.hid (hB.trans ((hB2.trans ((hB3.trans (hB4.mono hB3.size)).mono hB2.size)).mono hB.size))
          clear hB2 hB3 hB4
          go_wp2
          go_ret
          exact ⟨rfl, HX.out⟩
end Go.Proofs.YtdoankamaobkoaaGreatDoor
