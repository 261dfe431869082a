/- The calls, side by side. -/
import Derived.Test.YtdoankamaobkoaaGreatQTw
set_option linter.unusedSimpArgs false
set_option linter.unusedVariables false
namespace Go.Proofs.YtdoankamaobkoaaGreat
open Go.RowKit Go.Maps Go.Shelf

section
variable {w0 w w' : World} {p d r x q : Nat} {F G : Nat → Prop} {S S' T T' : Pgr} {L L' : List (Int × Pg)} {o : Obj} {K : Int}
theorem Tb.load (h : Tb w0 w p d r x F G S T L q o) (hb : Bnd S K) (hK : K ≤ 1000000000000) (a : Int) (ha : (Lit.int .i64 a).wf = true) :
    Calls Tryz.prog 16 #[.pointer (some ⟨p, 0, none⟩), .int .i64 a] w fun e w' => e = .returned (.tuple #[.string (S.load a).1.1, .int .i64 (S.load a).1.2]) ∧ Tb w0 w' p d r x (ext F w w') G (S.load a).2 T L q o :=
  (load_in h.pin a ha (by have := hb.clock; omega) (by have := hb.reads; omega)).mono fun _ _ ⟨he, h1, h2⟩ => ⟨he, h.pager h1 h2⟩
theorem Tb.store (h : Tb w0 w p d r x F G S T L q o) (a : Int) (ha : (Lit.int .i64 a).wf = true) (s : ByteArray) (hs : s.size ≤ 140737488355328) :
    Calls Tryz.prog 10 #[.pointer (some ⟨p, 0, none⟩), .int .i64 a, .string s] w fun e w' => e = .returned (.int .i64 (S.store a s).1) ∧ Tb w0 w' p d r x (ext F w w') G (S.store a s).2 T L q o :=
  (store_in h.pin a s ha hs).mono fun _ _ ⟨he, h1, h2⟩ => ⟨he, h.pager h1 h2⟩
theorem Tb.pin_ (h : Tb w0 w p d r x F G S T L q o) (hb : Bnd S K) (hK : K ≤ 1000000000000) (a : Int) (ha : (Lit.int .i64 a).wf = true) :
    Calls Tryz.prog 19 #[.pointer (some ⟨p, 0, none⟩), .int .i64 a] w fun e w' => e = .returned (.int .i64 (S.pin a).1) ∧ Tb w0 w' p d r x (ext F w w') G (S.pin a).2 T L q o :=
  (pin_in h.pin a ha (by have := hb.clock; omega) (by have := hb.reads; omega) (fun y hy => by have := hb.pins _ (get_mem hy); simp only at this; omega)).mono fun _ _ ⟨he, h1, h2⟩ => ⟨he, h.pager h1 h2⟩
theorem Tb.unpin (h : Tb w0 w p d r x F G S T L q o) (hb : Bnd S K) (hK : K ≤ 1000000000000) (a : Int) (ha : (Lit.int .i64 a).wf = true) :
    Calls Tryz.prog 20 #[.pointer (some ⟨p, 0, none⟩), .int .i64 a] w fun e w' => e = .returned (.int .i64 (S.unpin a).1) ∧ Tb w0 w' p d r x (ext F w w') G (S.unpin a).2 T L q o :=
  (unpin_in h.pin a ha (fun y hy => by have := hb.pins _ (get_mem hy); simp only at this; omega)).mono fun _ _ ⟨he, h1, h2⟩ => ⟨he, h.pager h1 h2⟩
theorem Tb.commit (h : Tb w0 w p d r x F G S T L q o) (hb : Bnd S K) (hK : K ≤ 900000000000) :
    Calls Tryz.prog 13 #[.pointer (some ⟨p, 0, none⟩)] w fun e w' => e = .returned (.int .i64 S.commit.1) ∧ Tb w0 w' p d r x (ext F w w') G S.commit.2 T L q o :=
  (commit_in h.pin hb.left (by have := hb.log; omega) (by have := hb.clock; omega)).mono fun _ _ ⟨he, h1, h2⟩ => ⟨he, h.pager h1 h2⟩
theorem Tb.undo (h : Tb w0 w p d r x F G S T L q o) :
    Calls Tryz.prog 15 #[.pointer (some ⟨p, 0, none⟩)] w fun e w' => e = .returned (.tuple #[]) ∧ Tb w0 w' p d r x (ext F w w') G S.undo T L q o :=
  (undo_in h.pin).mono fun _ _ ⟨he, h1, h2⟩ => ⟨he, h.pager h1 h2⟩
theorem Tb.cut (h : Tb w0 w p d r x F G S T L q o) (n : Int) :
    Calls Tryz.prog 50 #[.pointer (some ⟨d, 0, none⟩), .int .i64 n] w fun e w' => e = .returned (.tuple #[]) ∧ Tb w0 w' p d r x (ext F w w') G { S with disk := S.disk.cut n } T L q o :=
  (cut_in h.pin n).mono fun _ _ ⟨he, h1, h2⟩ => ⟨he, h.pager h1 h2⟩
theorem Tb.qload (h : Tb w0 w p d r x F G S T L q o) (hok : T.Ok) (hb : Bnd T K) (hK : K ≤ 1000000000000) (a : Int) :
    Calls Tryz.prog 45 #[.pointer (some ⟨r, 0, none⟩), .int .i64 a] w fun e w' => e = .returned (.tuple #[.string (T.load a).1.1, .int .i64 (T.load a).1.2]) ∧ ∃ L', Tb w0 w' p d r x F (ext G w w') S (T.load a).2 L' q o :=
  (qload_any h.rat h.ord hok (by have := hb.reads; omega) a).mono fun _ _ ⟨he, L', h1, h2⟩ => ⟨he, L', h.ref h2 h1⟩
theorem Tb.qstore (h : Tb w0 w p d r x F G S T L q o) (hok : T.Ok) (a : Int) (s : ByteArray) (hs : s.size ≤ 140737488355328) :
    Calls Tryz.prog 46 #[.pointer (some ⟨r, 0, none⟩), .int .i64 a, .string s] w fun e w' => e = .returned (.int .i64 (T.store a s).1) ∧ ∃ L', Tb w0 w' p d r x F (ext G w w') S (T.store a s).2 L' q o :=
  (qstore_any h.rat h.ord hok a s hs).mono fun _ _ ⟨he, L', h1, h2⟩ => ⟨he, L', h.ref h2 h1⟩
theorem Tb.qpin (h : Tb w0 w p d r x F G S T L q o) (hok : T.Ok) (hb : Bnd T K) (hK : K ≤ 1000000000000) (a : Int) :
    Calls Tryz.prog 47 #[.pointer (some ⟨r, 0, none⟩), .int .i64 a] w fun e w' => e = .returned (.int .i64 (T.pin a).1) ∧ ∃ L', Tb w0 w' p d r x F (ext G w w') S (T.pin a).2 L' q o :=
  (qpin_any h.rat h.ord hok (by have := hb.reads; omega) a (fun y hy => by have := hb.pins _ hy; omega)).mono fun _ _ ⟨he, L', h1, h2⟩ => ⟨he, L', h.ref h2 h1⟩
theorem Tb.qunpin (h : Tb w0 w p d r x F G S T L q o) (hok : T.Ok) (hb : Bnd T K) (hK : K ≤ 1000000000000) (a : Int) :
    Calls Tryz.prog 48 #[.pointer (some ⟨r, 0, none⟩), .int .i64 a] w fun e w' => e = .returned (.int .i64 (T.unpin a).1) ∧ ∃ L', Tb w0 w' p d r x F (ext G w w') S (T.unpin a).2 L' q o :=
  (qunpin_any h.rat h.ord hok a (fun y hy => by have := hb.pins _ hy; omega)).mono fun _ _ ⟨he, L', h1, h2⟩ => ⟨he, L', h.ref h2 h1⟩
theorem Tb.qcommit (h : Tb w0 w p d r x F G S T L q o) (hok : T.Ok) (hb : Bnd T K) (hK : K ≤ 900000000000) :
    Calls Tryz.prog 49 #[.pointer (some ⟨r, 0, none⟩)] w fun e w' => e = .returned (.int .i64 T.commit.1) ∧ ∃ L', Tb w0 w' p d r x F (ext G w w') S T.commit.2 L' q o :=
  (qcomm_any h.rat h.ord hok hb.left (by have := hb.log; omega)).mono fun _ _ ⟨he, L', h1, h2⟩ => ⟨he, L', h.ref h2 h1⟩
theorem Tb.qundo (h : Tb w0 w p d r x F G S T L q o) : Tb w0 (w.setCell ⟨r, 3, none⟩ (.slice none 0 0)) p d r x F (ext G w (w.setCell ⟨r, 3, none⟩ (.slice none 0 0))) S T.undo L q o :=
  h.ref h.rat.undo ⟨h.ord.perm, h.ord.srt⟩
theorem Tb.qcut (h : Tb w0 w p d r x F G S T L q o) (n : Int) :
    Calls Tryz.prog 51 #[.pointer (some ⟨x, 0, none⟩), .int .i64 n] w fun e w' => e = .returned (.tuple #[]) ∧ Tb w0 w' p d r x F (ext G w w') S { T with disk := T.disk.cut n } L q o := by
  have hr := h.rat
  obtain ⟨lv, cv, bv, lgv, hM, hG⟩ := hr
  refine (qcut_any hM.qd n).mono fun e w' ⟨he, hs⟩ => ⟨he, ?_⟩
  exact h.ref (hM.disk_stp hG hs) ⟨h.ord.perm, h.ord.srt⟩
theorem Tb.sees (h : Tb w0 w p d r x F G S T L q o) : w.cell? ⟨r, 0, none⟩ = some (.pointer (some ⟨x, 0, none⟩)) ∧ (∃ cv, w.cell? ⟨r, 3, none⟩ = some cv) ∧ w.frozen? ⟨r, 3, none⟩ = false ∧ w.cell? ⟨r, 4, none⟩ = some (.int .i64 T.reads) := by
  have hr := h.rat
  obtain ⟨lv, cv, bv, lgv, hM, hG⟩ := hr
  have hs := hM.sees
  exact ⟨hs.c0, ⟨cv, hs.c3⟩, hs.f3, hs.c4⟩
end
/-- the two, alike -/
structure Tz (w0 w : World) (p d r x : Nat) (F G : Nat → Prop) (S : Pgr) (L : List (Int × Pg)) : Prop where
  pin : PIn w0 w p d F S
  rat : RAt w r x G S L
  ord : Ord S L
  newG : ∀ b, G b → w0.heap.size ≤ b
  fl : ∀ b, F b → b < w.heap.size
  gl : ∀ b, G b → b < w.heap.size
  ap : ∀ b, F b → ¬ G b
def TzEx (w0 w : World) (p d r x : Nat) (rm K : Int) : Prop := ∃ F G S L, Tz w0 w p d r x F G S L ∧ Bnd S K
theorem Tz.box {w0 w : World} {p d r x : Nat} {F G : Nat → Prop} {S : Pgr} {L : List (Int × Pg)} (h : Tz w0 w p d r x F G S L) (o : Obj) : Tb w0 (w.alloc o) p d r x F G S S L w.heap.size o := by
  have hB : Below w.heap.size w (w.alloc o) := (Below.refl _ w).alloc (Nat.le_refl _) o
  have hs := hB.size
  exact ⟨h.pin.made hB, h.rat.made hB, h.ord, h.newG, fun b hb => by have := h.fl b hb; omega, fun b hb => by have := h.gl b hb; omega, h.ap, heap_alloc_new' _ _, fun hb => by have := h.fl _ hb; omega, fun hb => by have := h.gl _ hb; omega⟩
theorem Tb.tz {w0 w : World} {p d r x q : Nat} {F G : Nat → Prop} {S : Pgr} {L : List (Int × Pg)} {o : Obj} (h : Tb w0 w p d r x F G S S L q o) : Tz w0 w p d r x F G S L := ⟨h.pin, h.rat, h.ord, h.newG, h.fl, h.gl, h.ap⟩
/-- what the regions load -/
def QLds (q : Nat) (a : Int) (tx : ByteArray) (w : World) : Prop := w.cell? ⟨q, 1, none⟩ = some (.int .i64 a) ∧ w.cell? ⟨q, 2, none⟩ = some (.string tx)
theorem Tb.lds {w0 w : World} {p d r x q : Nat} {F G : Nat → Prop} {S T : Pgr} {L : List (Int × Pg)} {k a : Int} {tx : ByteArray} {t : TypeId} {f : Nat × Nat} (h : Tb w0 w p d r x F G S T L q (.cells #[.int .i64 k, .int .i64 a, .string tx] t f)) : QLds q a tx w :=
  ⟨(cell_of h.bx 1).trans rfl, (cell_of h.bx 2).trans rfl⟩
end Go.Proofs.YtdoankamaobkoaaGreat
