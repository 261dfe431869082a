/- PagerPlays: what begins; any act. -/
import Derived.Test.YtdoankamaobkoaaGreatQLog
import Derived.Test.YtdoankamaobkoaaGreatWake2
import Derived.Test.YtdoankamaobkoaaGreatUndo
set_option linter.unusedSimpArgs false
set_option linter.unusedVariables false
namespace Go.Proofs.YtdoankamaobkoaaGreat
open Go.RowKit Go.Maps Go.Shelf

theorem pnew_bad (d : Addr) (room : Int) (w : World) (h : room < 1 ∨ 1024 < room) : Calls Tryz.prog 9 #[.pointer (some d), .int .i64 room] w fun e w' => e = .returned (.tuple #[.pointer none, .int .i64 1]) ∧ w = w' := by
  by_cases h1 : room < 1
  · clear h
    go_enter Tryz.func9, Tryz.ntmps9
    go_wp2
    go_ret2
    exact ⟨rfl, rfl⟩
  · have h2 : 1024 < room := by omega
    have h3 : 1 ≤ room := by omega
    clear h h1
    go_enter Tryz.func9, Tryz.ntmps9
    go_wp2
    go_ret2
    exact ⟨rfl, rfl⟩
/-- all is begun -/
theorem tz_start {w0 w2 w3 w4 : World} {d bb x p : Nat} {bv : Value} {room : Int} (h2 : Below w0.heap.size w0 w2) (hd : w0.heap.size ≤ d) (hbb : w0.heap.size ≤ bb) (hdl : d < w2.heap.size) (hbl : bb < w2.heap.size)
    (hx : QD w3 x bv (.slice none 0 0) (newDsk 70)) (hxn : w2.heap.size ≤ x) (hbn : ∀ b, bv.ownBlock = some b → w2.heap.size ≤ b) (h3 : Below w2.heap.size w2 w3) (h4 : Below w3.heap.size w3 w4)
    (hP : PIn w0 w4 p d (fun b => dfp d bb (.slice none 0 0) b ∨ (w3.heap.size ≤ b ∧ b < w4.heap.size)) (newPgr (newDsk 70) room)) :
    TzEx w0 (w4.alloc (.cells #[.pointer (some ⟨x, 0, none⟩), .int .i64 room, .slice none 0 0, .slice none 0 0, .int .i64 0] 55 (0, 0))) p d w4.heap.size x 0 0 := by
  have s2 := h2.size
  have s3 := h3.size
  have s4 := h4.size
  have hx4 := hx.made h4
  have hB : Below w4.heap.size w4 (w4.alloc (.cells #[.pointer (some ⟨x, 0, none⟩), .int .i64 room, .slice none 0 0, .slice none 0 0, .int .i64 0] 55 (0, 0))) := (Below.refl _ _).alloc (Nat.le_refl _) _
  have hx5 := hx4.made hB
  have hxl := hx.fp_lt (.inl rfl)
  have hbvl : ∀ b, bv.ownBlock = some b → b < w3.heap.size := fun b hb => hx.fp_lt (.inr (.inl hb))
  have hM : RMem (w4.alloc (.cells #[.pointer (some ⟨x, 0, none⟩), .int .i64 room, .slice none 0 0, .slice none 0 0, .int .i64 0] 55 (0, 0))) w4.heap.size x (.slice none 0 0) (.slice none 0 0) bv (.slice none 0 0) (newPgr (newDsk 70) room) [] :=
    ⟨heap_alloc_new' _ _, hx5.q, World.ownsRow_nil _ _ _ _, World.ownsRow_nil _ _ _ _, hx5.blk, World.ownsRow_nil _ _ _ _, fun b hb => by simp [Value.ownBlock] at hb⟩
  refine ⟨_, fun b => b = w4.heap.size ∨ b = x ∨ bv.ownBlock = some b, _, [], ⟨hP.made hB, ⟨_, _, _, _, hM, fun b hb => ?_⟩, ⟨List.Perm.refl _, List.Pairwise.nil⟩, fun b hb => ?_, fun b hb => ?_, fun b hb => ?_, fun b hb hg => ?_⟩, ?_⟩
  · rcases hb with hb | hb | hb | hb | hb | hb
    · exact .inl hb
    · exact .inr (.inl hb)
    · simp [Value.ownBlock] at hb
    · simp [Value.ownBlock] at hb
    · exact .inr (.inr hb)
    · simp [Value.ownBlock] at hb
  · rcases hb with rfl | rfl | hb
    · omega
    · omega
    · have := hbn b hb; omega
  · simp only [World.size_alloc]
    rcases hb with (hb | hb | hb) | hb
    · omega
    · omega
    · simp [Value.ownBlock] at hb
    · omega
  · simp only [World.size_alloc]
    rcases hb with rfl | rfl | hb
    · omega
    · omega
    · have := hbvl b hb; omega
  · rcases hb with (hb | hb | hb) | hb
    · rcases hg with hg | hg | hg
      · omega
      · omega
      · have := hbn b hg; omega
    · rcases hg with hg | hg | hg
      · omega
      · omega
      · have := hbn b hg; omega
    · simp [Value.ownBlock] at hb
    · rcases hg with hg | hg | hg
      · omega
      · omega
      · have := hbvl b hg; omega
  · exact ⟨Int.le_refl _, Int.le_refl _, fun q hq => by simp [newPgr] at hq, Int.le_refl _, fun ht => by simp [newPgr, newDsk] at ht⟩
theorem qdoes_any {w0 w : World} {p d r x : Nat} {K : Int} (h : TzEx w0 w p d r x 0 K) (hK0 : 0 ≤ K) (hK : K ≤ 500000000000) (k a : Int) (tx : ByteArray) (hkw : (Lit.int .i64 k).wf = true) (haw : (Lit.int .i64 a).wf = true) (htx : tx.size ≤ 140737488355328) :
    Calls Tryz.prog 24 #[.pointer (some ⟨d, 0, none⟩), .pointer (some ⟨p, 0, none⟩), .pointer (some ⟨r, 0, none⟩), qactV k a tx] w fun e w' => e = .returned (.bool true) ∧ TzEx w0 w' p d r x 0 (K + 30000) := by
  obtain ⟨F, G, S, L, hz, hb⟩ := h
  have hbd := kindI_bd (k := k) (n := 9) (by omega)
  have hc : kindI k 9 = 0 ∨ kindI k 9 = 1 ∨ kindI k 9 = 2 ∨ kindI k 9 = 3 ∨ kindI k 9 = 4 ∨ kindI k 9 = 5 ∨ kindI k 9 = 6 ∨ kindI k 9 = 7 ∨ kindI k 9 = 8 := by omega
  rcases hc with hk | hk | hk | hk | hk | hk | hk | hk | hk
  · exact qdoes_0 hz hb hK0 hK k a tx hkw haw htx hk
  · exact qdoes_1 hz hb hK0 hK k a tx hkw haw htx hk
  · exact qdoes_2 hz hb hK0 hK k a tx hkw haw htx hk
  · exact qdoes_3 hz hb hK0 hK k a tx hkw haw htx hk
  · exact qdoes_4 hz hb hK0 hK k a tx hkw haw htx hk
  · exact qdoes_5 hz hb hK0 hK k a tx hkw haw htx hk
  · exact qdoes_6 hz hb hK0 hK k a tx hkw haw htx hk
  · exact qdoes_7 hz hb hK0 hK k a tx hkw haw htx hk
  · exact qdoes_8 hz hb hK0 hK k a tx hkw haw htx hk
end Go.Proofs.YtdoankamaobkoaaGreat
