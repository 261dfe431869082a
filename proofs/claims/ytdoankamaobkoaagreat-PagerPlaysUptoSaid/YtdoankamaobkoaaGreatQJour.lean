/- The reference's journal: May, List, Head. -/
import Derived.Test.YtdoankamaobkoaaGreatQRef
set_option linter.unusedSimpArgs false
set_option linter.unusedVariables false
namespace Go.Proofs.YtdoankamaobkoaaGreat
open Go.RowKit Go.Maps Go.Shelf

theorem pagesIn_at {w : World} {a : Option Addr} {l : Pgs} (h : PagesIn w a l) {k : Nat} (hk : k < l.length) : ∃ g, a = some ⟨g, 0, none⟩ ∧ w.cell? ⟨g, k * 2, none⟩ = some (.int .i64 (l.getD k (0, ⟨#[]⟩)).1) ∧ w.cell? ⟨g, k * 2 + 1, none⟩ = some (.string (l.getD k (0, ⟨#[]⟩)).2) := by
  obtain ⟨g, ha, _, hc⟩ := h
  exact ⟨g, ha (by intro e; subst e; simp at hk), hc k hk⟩
theorem getD_mem' {α : Type} {l : List α} {k : Nat} (d : α) (hk : k < l.length) : l.getD k d ∈ l := by
  rw [List.getD_eq_getElem?_getD, List.getElem?_eq_getElem hk]; exact List.getElem_mem hk
theorem srt_getD {l : Pgs} (hs : Srt l) {i k : Nat} (hik : i < k) (hk : k < l.length) : (l.getD i (0, ⟨#[]⟩)).1 < (l.getD k (0, ⟨#[]⟩)).1 := by
  rw [List.getD_eq_getElem?_getD, List.getD_eq_getElem?_getD, List.getElem?_eq_getElem hk, List.getElem?_eq_getElem (show i < l.length by omega)]
  exact (List.pairwise_iff_getElem.1 hs) i k (by omega) hk hik
set_option maxRecDepth 100000 in
set_option maxHeartbeats 1000000 in
theorem may10_any (n : Int) (a : Option Addr) (cap : Nat) (l : Pgs) (w : World) (hl : PagesIn w a l) (hs : Srt l) (hok : ∀ q ∈ l, isPage n q.1 = true ∧ q.2.size = 256) (hlen : (l.length : Int) ≤ jPages n) (h1 : 64 ≤ n) (h2 : n ≤ 2048) :
    Calls Tryz.prog 99 #[.int .i64 n, .slice a l.length cap] w fun e w' => e = .returned (.int .i64 0) ∧ Below w.heap.size w w' := by
  have hP := rpages_any n w h1 h2
  have hb := jPages_bd n
  have HPG : Hid (∀ k W, k < l.length → Calls Tryz.prog 70 #[.int .i64 n, .int .i64 (l.getD k (0, ⟨#[]⟩)).1] W fun e w' => e = .returned (.bool true) ∧ W = w') := fun k W hk => by
    have := page10_any n (l.getD k (0, ⟨#[]⟩)).1 W h1 h2
    rwa [(hok _ (getD_mem' _ hk)).1] at this
  have HC : Hid (∀ k, k < l.length → ∃ g, a = some ⟨g, 0, none⟩ ∧ (∀ m, (w.drewN m).cell? ⟨g, k * 2, none⟩ = some (.int .i64 (l.getD k (0, ⟨#[]⟩)).1)) ∧ (∀ m, (w.drewN m).cell? ⟨g, k * 2 + 1, none⟩ = some (.string (l.getD k (0, ⟨#[]⟩)).2))) := fun k hk => by
    obtain ⟨g, e, h1, h2⟩ := pagesIn_at hl hk
    exact ⟨g, e, fun _ => h1, fun _ => h2⟩
  have HB : Hid (∀ m, Below w.heap.size w (w.drewN m)) := fun m => qdrew_below w m
  have HDD : Hid (∀ m m', (w.drewN m).drewN m' = w.drewN (m + m')) := fun m m' => drewN_drewN w m m'
  have HZ : Hid (∀ k, k < l.length → (l.getD k (0, ⟨#[]⟩)).2.size = 256) := fun k hk => (hok _ (getD_mem' _ hk)).2
  have HD : Hid (∀ i k, i < k → k < l.length → (l.getD i (0, ⟨#[]⟩)).1 < (l.getD k (0, ⟨#[]⟩)).1) := fun i k hik hk => srt_getD hs hik hk
  obtain ⟨kf, HKF⟩ : ∃ kf : Nat → Int, Hid (∀ k, (l.getD k (0, ⟨#[]⟩)).1 = kf k) := ⟨fun k => (l.getD k (0, ⟨#[]⟩)).1, fun k => rfl⟩
  obtain ⟨tf, HTF⟩ : ∃ tf : Nat → ByteArray, Hid (∀ k, (l.getD k (0, ⟨#[]⟩)).2 = tf k) := ⟨fun k => (l.getD k (0, ⟨#[]⟩)).2, fun k => rfl⟩
  simp only [HKF.out, HTF.out] at HPG HC HZ HD
  clear HKF HTF hl hs hok h1 h2
  generalize l.length = N at *
  generalize jPages n = pg at *
  go_enter Tryz.func99, Tryz.ntmps99
  go_wp2_with (go_at_call 98; refine hP.mono ?_; rintro e w' ⟨rfl, rfl⟩)
  go_loopw [14] (fun v wr => ∃ i m : Nat, v = .int .i64 i ∧ i ≤ N ∧ wr = w.drewN m) (fun v _ => N - (intOf v).toNat)
  case atStart => exact ⟨0, 0, rfl, by omega, rfl⟩
  case round =>
    obtain ⟨i, m, rfl, hi, rfl⟩ := hrel
    by_cases hlt : i < N
    · obtain ⟨g, rfl, hc0, hc1⟩ := HC.out i hlt
      have hz := HZ.out i hlt
      have hp := HPG.out i (w.drewN m) hlt
      go_wp2_with (go_at_call 70; refine hp.mono ?_; rintro e w' ⟨rfl, rfl⟩)
      go_loopw [6] (fun v wr' => ∃ j m' : Nat, v = .int .i64 j ∧ j ≤ i ∧ wr' = w.drewN m') (fun v _ => i - (intOf v).toNat)
      case atStart => exact ⟨0, m, rfl, by omega, rfl⟩
      case round =>
        obtain ⟨j, m', rfl, hj, rfl⟩ := hrel
        by_cases hji : j < i
        · obtain ⟨g', hg', hc0', hc1'⟩ := HC.out j (by omega)
          obtain rfl : g' = g := by simpa using hg'.symm
          have hd := HD.out j i hji hlt
          have hbq : (kf j == kf i) = false := by simp; omega
          go_upto_region 0 with fail
          go_quiet (fail)
          go_wp2
          go_roundw
          case rel => exact ⟨j + 1, m' + nq, by go_num, by omega, rfl⟩
          case measure => simp [intOf]; omega
        · obtain rfl : j = i := by omega
          go_wp2
          go_roundw
          case rel => exact ⟨j + 1, m', by go_num, by omega, rfl⟩
          case measure => simp [intOf]; omega
    · obtain rfl : i = N := by omega
      go_wp2
      go_ret
      exact ⟨rfl, HB.out m⟩
theorem ownsRow_made {w w' : World} {base : Nat} {T : TypeId} {sz : Nat} {v : Value} {n : Nat} {xs : List Value} (h : w.ownsRow base T sz v n xs) (hB : Below w.heap.size w w') : w'.ownsRow base T sz v n xs :=
  ownsRow_congr h fun b hb => hB.block b (h.lt b hb).2
/-- a text put at a new row's end -/
theorem push_text {w W : World} {base n : Nat} {v : Value} {xs : List ByteArray} (h : w.ownsRow base 9 1 v n (xs.map Value.string)) (hB : Below w.heap.size w W) (hb : base ≤ w.heap.size) (hn : n ≤ 100000000) (x : ByteArray) :
    ∃ ao co w3, (Builtin.append_ #[37, 37] 37 #[v, .slice (some ⟨W.heap.size, 0, none⟩) 1 1]).run Tryz.prog (W.alloc (.cells #[.string x] 9)) = .ok (.slice ao (n + 1) co) w3 ∧
      w3.ownsRow base 9 1 (.slice ao (n + 1) co) (n + 1) ((xs ++ [x]).map Value.string) ∧ Below base w w3 := by
  have hB1 : Below w.heap.size w (W.alloc (.cells #[.string x] 9)) := hB.alloc hB.size _
  have hs := hB1.size
  obtain ⟨ao, co, w3, hr, ho, hg, hbl⟩ := many_append 9 37 _ 1 16 info_str Tryz.underlying37 rfl (by omega) (by omega) _ base v n (xs.map Value.string) (ownsRow_made h hB1) ⟨W.heap.size, 0, none⟩ 1 1 [.string x] rfl
    (fun k u hu => by
      rw [add_none, Nat.zero_add, cell_new]
      simpa using hu) (by simp [Value.oneCell']) (by omega) (by omega)
  refine ⟨ao, co, w3, hr, by rw [List.map_append]; exact ho, ?_⟩
  exact (hB1.mono hb).grown hg (Nat.le_trans hb hs) (fun k hk => ((ownsRow_made h hB1).lt k hk).1)
theorem jList_take (l : Pgs) {r : Nat} (hr : r < (l.length + 127) / 128) : (jList l).take (r + 1) = (jList l).take r ++ [fill (jRow l l.length r)] := by
  have hl : r < (jList l).length := by rw [jList_length]; exact hr
  rw [List.take_succ_eq_append_getElem hl]
  congr 2
  simp [jList, jRaw]
set_option maxRecDepth 100000 in
set_option maxHeartbeats 2000000 in
theorem list10_any (a : Option Addr) (cap : Nat) (l : Pgs) (w : World) (hl : PagesIn w a l) (hn : l.length ≤ 4096) (hat : ∀ q ∈ l, 0 ≤ q.1 ∧ q.1 < 65536) :
    Calls Tryz.prog 129 #[.slice a l.length cap] w fun e w' => ∃ ao co, e = .returned (.slice ao (jList l).length co) ∧ w'.ownsRow w.heap.size 9 1 (.slice ao (jList l).length co) (jList l).length ((jList l).map Value.string) ∧ Below w.heap.size w w' := by
  obtain ⟨N, hN⟩ : ∃ N, l.length = N := ⟨_, rfl⟩
  have HC : Hid (∀ k W, Below w.heap.size w W → k < N → ∃ g, a = some ⟨g, 0, none⟩ ∧ W.cell? ⟨g, k * 2, none⟩ = some (.int .i64 (l.getD k (0, ⟨#[]⟩)).1.toNat)) := fun k W hB hk => by
    obtain ⟨g, e, h1, h2⟩ := pagesIn_at hl (by omega : k < l.length)
    have hb := hat _ (getD_mem' (0, ⟨#[]⟩) (by omega : k < l.length))
    refine ⟨g, e, (hB.cell (p := ⟨g, k * 2, none⟩) ?_).trans ?_⟩
    · obtain ⟨g', ha', hg', _⟩ := hl
      have := ha' (by intro e; subst e; simp at hN; omega)
      rw [e] at this
      simp at this
      show g < _
      omega
    · rw [h1]; congr 2; omega
  have HV : Hid (∀ k, k < N → (l.getD k (0, ⟨#[]⟩)).1.toNat < 65536) := fun k hk => by
    have hb := hat _ (getD_mem' (0, ⟨#[]⟩) (by omega : k < l.length))
    omega
  have HJ : Hid (∀ r j, j < 128 → jRow l (128 * r + (j + 1)) r = jRow l (128 * r + j) r ++ putB (l.getD (128 * r + j) (0, ⟨#[]⟩)).1.toNat 2) := fun r j hj => by
    have := jRow_more l (128 * r + j)
    rw [show (128 * r + j) / 128 = r by omega] at this
    rw [← Nat.add_assoc]; exact this
  have HJ0 : Hid (∀ r, jRow l (128 * r + 0) r = ⟨#[]⟩) := fun r => by
    have := jRow_none l (k := 128 * r) (by omega)
    rwa [show 128 * r / 128 = r by omega] at this
  have HJZ : Hid (∀ r j, j ≤ 128 → (jRow l (128 * r + j) r).size = 2 * j) := fun r j hj => by rw [jRow_size]; omega
  have HT : Hid (∀ r, r < (N + 127) / 128 → (jList l).take (r + 1) = (jList l).take r ++ [fill (jRow l N r)]) := fun r hr => by rw [← hN] at hr ⊢; exact jList_take l hr
  have HTL : Hid ((jList l).take ((N + 127) / 128) = jList l) := by show _ = _; rw [← hN, ← jList_length, List.take_length]
  have HTN : Hid ((jList l).length = (N + 127) / 128) := by show _ = _; rw [← hN, ← jList_length]
  have HE : Hid (∀ r j, r < (N + 127) / 128 → j ≤ 128 → 128 * r + j ≤ N → (j = 128 ∨ 128 * r + j = N) → jRow l (128 * r + j) r = jRow l N r) := fun r j hr hj h1 h2 => by
    unfold jRow
    rw [show min 128 (128 * r + j - 128 * r) = min 128 (N - 128 * r) by omega]
  rw [hN] at hn ⊢
  clear hl hat hN
  rw [HTN.out]
  generalize jList l = jl at *
  obtain ⟨jr, HJR⟩ : ∃ jr : Nat → Nat → ByteArray, Hid (∀ k r, jRow l k r = jr k r) := ⟨jRow l, fun _ _ => rfl⟩
  obtain ⟨vf, HVF⟩ : ∃ vf : Nat → Nat, Hid (∀ k, (l.getD k (0, ⟨#[]⟩)).1.toNat = vf k) := ⟨fun k => (l.getD k (0, ⟨#[]⟩)).1.toNat, fun _ => rfl⟩
  simp only [HJR.out, HVF.out] at HC HV HJ HJ0 HJZ HT HE
  clear HJR HVF
  go_enter Tryz.func129, Tryz.ntmps129
  go_wp2
  go_loopw [3, 4] (fun vo vi wr => ∃ (r : Nat) (ao : Option Addr) (co : Nat), vo = .slice ao r co ∧ vi = .int .i64 (128 * (r : Int)) ∧ r ≤ (N + 127) / 128 ∧ Hid (wr.ownsRow w.heap.size 9 1 (.slice ao r co) r ((jl.take r).map Value.string)) ∧ Below w.heap.size w wr) (fun _ vi _ => N + 128 - (intOf vi).toNat)
  case atStart => exact ⟨0, none, 0, rfl, rfl, by omega, World.ownsRow_nil _ _ _ _, Below.refl _ _⟩
  case round =>
    obtain ⟨r, ao, co, rfl, rfl, hr, HO, hB⟩ := hrel
    by_cases hlt : r < (N + 127) / 128
    · have hlt' : 128 * r < N := by omega
      have hlt2 : 128 * (r : Int) < (N : Int) := by omega
      obtain ⟨w1, rfl⟩ : ∃ w1, w1 = wr := ⟨_, rfl⟩
      go_wp2
      go_loopw [5, 6] (fun vs vk wr' => ∃ (j : Nat) (s : ByteArray), vs = .string s ∧ vk = .int .i64 (128 * (r : Int) + (j : Int)) ∧ j ≤ 128 ∧ 128 * r + j ≤ N ∧ s.size = 2 * j ∧ Hid (jr (128 * r + j) r = s) ∧ Below w1.heap.size w1 wr') (fun _ vk _ => N - (intOf vk).toNat)
      case atStart => exact ⟨0, ⟨#[]⟩, rfl, rfl, by omega, by omega, rfl, HJ0.out r, Below.refl _ _⟩
      case round =>
        obtain ⟨j, s, rfl, rfl, hj, hjN, hss, HS, hB2⟩ := hrel
        by_cases hgo : j < 128 ∧ 128 * r + j < N
        · obtain ⟨hj1, hj2⟩ := hgo
          obtain ⟨g, rfl, hc⟩ := HC.out (128 * r + j) wr (hB.trans (hB2.mono hB.size)) hj2
          have hv := HV.out _ hj2
          have hi2 : 128 * (r : Int) + (j : Int) < (N : Int) := by omega
          have hput := nput_any (vf (128 * r + j)) 2 wr (by omega) (by omega) (by omega)
          have HS2 : Hid (jr (128 * r + (j + 1)) r = s ++ putB (vf (128 * r + j)) 2) := by show _ = _; rw [HJ.out r j hj1, HS.out]
          have hps : (putB (vf (128 * r + j)) 2).size = 2 := putB_size _ _
          generalize vf (128 * r + j) = v at *
          generalize putB v 2 = pb at *
          clear HS HC HV HJ HJ0 HJZ HT HTL HTN HE
          go_wp2_with (go_at_call 143; refine hput.mono ?_; rintro e w' ⟨rfl, hB3⟩)
          go_roundw
          case rel => exact ⟨j + 1, s ++ pb, rfl, by go_num, by omega, by omega, by rw [ByteArray.size_append]; omega, HS2, hB2.trans (hB3.mono hB2.size)⟩
          case measure => simp [intOf]; omega
        · have hi3 : 128 * (r : Int) + (j : Int) ≤ (N : Int) := by omega
          have hend : j = 128 ∨ 128 * r + j = N := by omega
          have HSE : Hid (jr N r = s) := by show _ = _; rw [← HE.out r j hlt hj hjN hend, HS.out]
          have hB3 : Below w.heap.size w wr := hB.trans (hB2.mono hB.size)
          have hbl := fun W => jblock_any s W (by omega)
          have HP : Hid (∀ W, Below wr.heap.size wr W → ∃ ao' co' w3, (Builtin.append_ #[37, 37] 37 #[.slice ao r co, .slice (some ⟨W.heap.size, 0, none⟩) 1 1]).run Tryz.prog (W.alloc (.cells #[.string (fill s)] 9)) = .ok (.slice ao' (r + 1) co') w3 ∧
              w3.ownsRow w.heap.size 9 1 (.slice ao' (r + 1) co') (r + 1) ((jl.take (r + 1)).map Value.string) ∧ Below w.heap.size w w3) := fun W hW => by
            have hs2 := hB2.size
            obtain ⟨ao', co', w3, q1, q2, q3⟩ := push_text (ownsRow_made HO.out hB2) hW hB3.size (by omega) (fill s)
            refine ⟨ao', co', w3, q1, ?_, hB3.trans q3⟩
            rw [HT.out r hlt, HSE.out]; exact q2
          have hsz : (fill s).size = 256 := padB_size (by omega)
          obtain ⟨x, hx⟩ : ∃ x, fill s = x := ⟨_, rfl⟩
          rw [hx] at HP hbl hsz
          clear HC HV HJ HJ0 HJZ HT HTL HTN HE HS HSE HO hx
          have hend' : j = 128 ∨ (j < 128 ∧ (N : Int) ≤ 128 * (r : Int) + (j : Int)) := by omega
          clear hend hi3 hjN
          rcases hend' with rfl | ⟨hj', he⟩
          · go_wp2_with fail
            refine (hbl _).mono ?_
            rintro e W ⟨rfl, hW⟩
            obtain ⟨ao', co', w3, q1, q2, q3⟩ := HP.out W hW
            have Q1 := Lib.hid q1
            have Q2 := Lib.hid q2
            clear q1 q2
            go_wp2_with (at_builtin; refine wpList_append_run Q1.out rfl rfl rfl rfl rfl ?_)
            go_roundw
            case rel => exact ⟨r + 1, ao', co', by go_num, by go_num, by omega, Q2, q3⟩
            case measure => simp [intOf]; omega
          · go_wp2_with fail
            refine (hbl _).mono ?_
            rintro e W ⟨rfl, hW⟩
            obtain ⟨ao', co', w3, q1, q2, q3⟩ := HP.out W hW
            have Q1 := Lib.hid q1
            have Q2 := Lib.hid q2
            clear q1 q2
            go_wp2_with (at_builtin; refine wpList_append_run Q1.out rfl rfl rfl rfl rfl ?_)
            go_roundw
            case rel => exact ⟨r + 1, ao', co', by go_num, by go_num, by omega, Q2, q3⟩
            case measure => simp [intOf]; omega
    · obtain rfl : r = (N + 127) / 128 := by omega
      have hge : N ≤ 128 * ((N + 127) / 128) := by omega
      rw [HTL.out] at HO
      go_wp2
      go_ret
      exact ⟨ao, co, rfl, HO.out, hB⟩
set_option maxRecDepth 100000 in
set_option maxHeartbeats 2000000 in
theorem head10_any (a : Option Addr) (cap : Nat) (l : List (Int × ByteArray)) (w : World) (hl : PagesIn w a l) (hn : l.length ≤ 4096) (hat : ∀ q ∈ l, 0 ≤ q.1 ∧ q.1 < 65536) (hsz : ∀ q ∈ l, q.2.size ≤ 65536) :
    Calls Tryz.prog 130 #[.slice a l.length cap] w fun e w' => e = .returned (.string (jTop l)) ∧ Below w.heap.size w w' := by
  have HL := Lib.hid (list10_any a cap l w hl hn hat)
  obtain ⟨g, ha, hg, hcell⟩ := hl
  have HC := Lib.hid hcell
  have HA := Lib.hid ha
  have HS := Lib.hid hsz
  have hT : jTop l = fill (jMark ++ putB l.length 2 ++ putB (jSum l) 4) := rfl
  obtain ⟨sum, HSUM⟩ : ∃ sum, Hid (jSum l = sum) := ⟨_, Lib.hid rfl⟩
  have hslt := jSum_lt l
  rw [hT]
  rw [HSUM.out] at hslt ⊢
  have HSUM2 : Hid ((l.map (·.2)).foldl mixMore ((jList l).foldl mixMore 1) = sum) := HSUM.out
  have hjl := jList_length l
  have HJS := Lib.hid (jList_sizes l)
  obtain ⟨n, hnl⟩ : ∃ n, n = l.length := ⟨_, rfl⟩
  obtain ⟨rows, hrows⟩ : ∃ rows, jList l = rows := ⟨_, rfl⟩
  rw [hrows] at HL HSUM2 HJS hjl
  rw [← hnl] at hn HL hjl ⊢
  have HN := Lib.hid hnl
  have HP2 : Hid (∃ p2, putB n 2 = p2) := ⟨_, rfl⟩
  clear hcell ha hat hT HSUM hnl hsz hrows
  have hrl : rows.length ≤ 64 := by omega
  clear hjl
  go_enter Tryz.func130, Tryz.ntmps130
  go_wp2_with fail
  refine (nsum_any _).mono ?_
  rintro e w' ⟨rfl, rfl⟩
  go_wp2_with fail
  refine HL.out.mono ?_
  rintro e w1 ⟨ao, co, rfl, hown, hB1⟩
  have HOWN := Lib.hid hown
  have HB1 := Lib.hid hB1
  have hs1 := hB1.size
  clear hown hB1 HL
  go_wp2
  go_loopw [3, 16] (fun u v wr => ∃ (i s : Nat), u = .int .u32 s ∧ v = .int .i64 i ∧ i ≤ rows.length ∧ s < 4294967296 ∧ Hid ((rows.drop i).foldl mixMore s = rows.foldl mixMore 1) ∧ wr = w1) (fun _ v _ => rows.length - (intOf v).toNat)
  case atStart => exact ⟨0, 1, rfl, rfl, by omega, by omega, Lib.hid (by rw [List.drop_zero]), rfl⟩
  case round =>
    obtain ⟨i, s, rfl, rfl, hi, hs, HF, rfl⟩ := hrel
    by_cases hlt : i < rows.length
    · obtain ⟨g2, rfl⟩ : ∃ g2, ao = some ⟨g2, 0, none⟩ := by
        rcases HOWN.out.2 with ⟨h, h0⟩ | ⟨g2, cap2, cur, h, _⟩
        · omega
        · simp only [Value.slice.injEq] at h; exact ⟨g2, h.1⟩
      have hc := HOWN.out.cellAt i (by omega)
      rw [List.getElem?_map, List.getElem?_eq_getElem hlt] at hc
      simp only [Option.map_some] at hc
      have hx : rows[i].size = 256 := HJS.out _ (List.getElem_mem _)
      have HF2 : Hid ((rows.drop (i + 1)).foldl mixMore (mixMore s rows[i]) = rows.foldl mixMore 1) := by
        show _ = _
        rw [← HF.out, List.drop_eq_getElem_cons (i := i) (l := rows) hlt, List.foldl_cons]
      have hms := mixMore_lt s rows[i]
      have hma := nmore_any s rows[i] wr hs (by omega)
      clear HF
      generalize mixMore s rows[i] = s2 at *
      generalize rows[i] = x at *
      generalize rows.length = M at *
      go_wp2_with (go_at_call 145; refine hma.mono ?_; rintro e w' ⟨rfl, rfl⟩)
      go_roundw
      case rel => exact ⟨i + 1, s2, rfl, rfl, by omega, hms, HF2, trivial⟩
      case measure => simp [intOf]; omega
    · obtain rfl : i = rows.length := by omega
      have hfe : s = rows.foldl mixMore 1 := by rw [← HF.out, List.drop_of_length_le (Nat.le_refl _)]; rfl
      rw [← hfe] at HSUM2
      clear HF hfe hlt hi HOWN HJS
      go_wp2
      go_loopw [3, 28] (fun u v wr' => ∃ (i s : Nat), u = .int .u32 s ∧ v = .int .i64 i ∧ i ≤ n ∧ s < 4294967296 ∧ Hid (((l.drop i).map (·.2)).foldl mixMore s = sum) ∧ Below w.heap.size w wr') (fun _ v _ => n - (intOf v).toNat)
      case atStart => exact ⟨0, s, rfl, rfl, by omega, hs, HSUM2, HB1.out⟩
      case round =>
        obtain ⟨j, s', rfl, rfl, hj, hs', HF, hB⟩ := hrel
        by_cases hlt : j < n
        · have hlt' : j < l.length := by rw [← HN.out]; exact hlt
          obtain ⟨c0, c1⟩ := HC.out j hlt'
          have hb0 := hB.cell (p := ⟨g, j * 2, none⟩) hg
          have hb1 := hB.cell (p := ⟨g, j * 2 + 1, none⟩) hg
          rw [c0] at hb0
          rw [c1] at hb1
          have hge : l.getD j (0, ⟨#[]⟩) = l[j] := by simp [hlt']
          rw [hge] at hb0 hb1
          have hsx := HS.out _ (List.getElem_mem hlt')
          have hae : a = some ⟨g, 0, none⟩ := HA.out (by intro h; rw [h] at hlt'; simp at hlt')
          subst hae
          have HF2 : Hid (((l.drop (j + 1)).map (·.2)).foldl mixMore (mixMore s' l[j].2) = sum) := by
            show _ = _
            rw [← HF.out, List.drop_eq_getElem_cons (i := j) (l := l) hlt', List.map_cons, List.foldl_cons]
          have hms := mixMore_lt s' l[j].2
          have hma := fun W => nmore_any s' l[j].2 W hs' (by omega)
          have HMA := Lib.hid hma
          clear HF hma c0 c1 hge
          generalize mixMore s' l[j].2 = s2 at *
          generalize l[j].2 = x at *
          generalize l[j].1 = y at *
          go_wp2_with (go_at_call 145; refine (HMA.out _).mono ?_; rintro e w' ⟨rfl, rfl⟩)
          go_roundw
          case rel => exact ⟨j + 1, s2, rfl, rfl, by omega, hms, HF2, hB⟩
          case measure => simp [intOf]; omega
        · obtain rfl : j = n := by omega
          have hfe : s' = sum := by rw [← HF.out, List.drop_of_length_le (by rw [← HN.out]; exact Nat.le_refl _)]; rfl
          subst hfe
          have hp1 := fun W => nput_any j 2 W (by omega) (by omega) (by omega)
          have hp2 := fun W => nput_any s' 4 W (by omega) (by omega) (by omega)
          have HP1 := Lib.hid hp1
          have HP22 := Lib.hid hp2
          have hz1 := putB_size j 2
          have hz2 := putB_size s' 4
          have hzm : jMark.size = 4 := rfl
          have hsz3 : (jMark ++ putB j 2 ++ putB s' 4).size ≤ 256 := by rw [ByteArray.size_append, ByteArray.size_append]; omega
          have hfill := fun W => jblock_any (jMark ++ putB j 2 ++ putB s' 4) W hsz3
          have HFILL := Lib.hid hfill
          clear HF HA HC HS HN HSUM2 hp1 hp2 hfill
          go_wp2_with fail
          refine (HP1.out _).mono ?_
          rintro e w2 ⟨rfl, hB2⟩
          clear HP1
          go_wp2_with fail
          refine (HP22.out _).mono ?_
          rintro e w3 ⟨rfl, hB3⟩
          clear HP22
          go_wp2_with fail
          refine (HFILL.out _).mono ?_
          rintro e w4 ⟨rfl, hB4⟩
          have HX := Lib.hid (hB.trans ((hB2.trans ((hB3.trans (hB4.mono hB3.size)).mono hB2.size)).mono hB.size))
          clear hB2 hB3 hB4
          go_wp2
          go_ret
          exact ⟨rfl, HX.out⟩
end Go.Proofs.YtdoankamaobkoaaGreat
