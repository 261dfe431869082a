/- The law's world, and the boxed act. -/
import Derived.Test.YtdoankamaobkoaaGreatDoorDw
import Derived.Deep.RegionHeld3
set_option linter.unusedSimpArgs false
set_option linter.unusedVariables false
namespace Go.Proofs.YtdoankamaobkoaaGreatDoor
open Go.RowKit Go.Maps Go.Shelf

structure Db (w0 w : World) (W s d : Nat) (F : Nat → Prop) (z : Int) (V D : Int → ByteArray) (N : Int) (r1 lo1 hi1 : Nat) (R1 : Rf) (r2 lo2 hi2 : Nat) (R2 : Rf) (q : Nat) (o : Obj) : Prop where
  dw : Dw w0 w W s d F z V D N r1 lo1 hi1 R1 r2 lo2 hi2 R2
  bx : w.heap[q]? = some o
  nf : ¬ F q
  h1 : hi1 ≤ q
section
variable {w0 w w' : World} {W s d q : Nat} {F : Nat → Prop} {z N N' : Int} {V D V' D' : Int → ByteArray} {r1 lo1 hi1 r2 lo2 hi2 : Nat} {R1 R2 R1' : Rf} {o : Obj}
theorem Db.start (h : Dw w0 w W s d F z V D N r1 lo1 hi1 R1 r2 lo2 hi2 R2) (o : Obj) : Db w0 (w.alloc o) W s d F z V D N r1 lo1 hi1 R1 r2 lo2 hi2 R2 w.heap.size o :=
  ⟨h.made ((Below.refl _ w).alloc (Nat.le_refl _) o), heap_alloc_new' _ _, fun hb => by have := h.fl _ hb; omega, h.ap1.top⟩
theorem Db.space (h : Db w0 w W s d F z V D N r1 lo1 hi1 R1 r2 lo2 hi2 R2 q o) (k : SStp w0 w w' s d F z V' D' N') : Db w0 w' W s d (ext F w w') z V' D' N' r1 lo1 hi1 R1 r2 lo2 hi2 R2 q o :=
  ⟨h.dw.space k, (k.upd.block q (lt_of h.bx) h.nf).trans h.bx, fun hb => hb.elim h.nf (fun hb => by have := lt_of h.bx; omega), h.h1⟩
theorem Db.made (h : Db w0 w W s d F z V D N r1 lo1 hi1 R1 r2 lo2 hi2 R2 q o) (hB : Below w.heap.size w w') : Db w0 w' W s d F z V D N r1 lo1 hi1 R1 r2 lo2 hi2 R2 q o :=
  ⟨h.dw.made hB, (hB.block q (lt_of h.bx)).trans h.bx, h.nf, h.h1⟩
theorem Db.ref (h : Db w0 w W s d F z V D N r1 lo1 hi1 R1 r2 lo2 hi2 R2 q o) (hR : RIn w' r1 lo1 hi1 z R1') (hu : Upd (seg lo1 hi1) w w') : Db w0 w' W s d F z V D N r1 lo1 hi1 R1' r2 lo2 hi2 R2 q o :=
  ⟨h.dw.ref hR hu, (hu.block q (lt_of h.bx) (fun hg => by have := h.h1; have := hg.2; omega)).trans h.bx, h.nf, h.h1⟩
end
/-- what the regions load -/
def Lds (W s r1 q : Nat) (a : Int) (tx : ByteArray) (w : World) : Prop := w.cell? ⟨W, 1, none⟩ = some (.pointer (some ⟨s, 0, none⟩)) ∧ w.cell? ⟨W, 2, none⟩ = some (.pointer (some ⟨r1, 0, none⟩)) ∧ w.cell? ⟨q, 1, none⟩ = some (.int .i64 a) ∧ w.cell? ⟨q, 2, none⟩ = some (.string tx)
theorem Db.lds {w0 w : World} {W s d q : Nat} {F : Nat → Prop} {z N : Int} {V D : Int → ByteArray} {r1 lo1 hi1 r2 lo2 hi2 : Nat} {R1 R2 : Rf} {k a : Int} {tx : ByteArray} {t : TypeId} {f : Nat × Nat}
    (h : Db w0 w W s d F z V D N r1 lo1 hi1 R1 r2 lo2 hi2 R2 q (.cells #[.int .i64 k, .int .i64 a, .string tx] t f)) : Lds W s r1 q a tx w :=
  ⟨h.dw.cells.2.1, h.dw.cells.2.2.1, cell_in h.bx rfl, cell_in h.bx rfl⟩
end Go.Proofs.YtdoankamaobkoaaGreatDoor
