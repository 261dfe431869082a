/- An error of package space: *Fault round a number: errors.As and errors.Is at it, by contracts. -/
import Derived.Test.YtmgcaohpbaiiaaaGreatDoorP1
import Derived.Stop.Asserts
import Derived.LaidEql
import Derived.RowKitTokens
set_option linter.unusedSimpArgs false
set_option linter.unusedVariables false
namespace Go.Proofs.YtmgcaohpbaiiaaaGreatDoor
open Go.RowKit Go.Extern.Stop Go.Stop Go.Extern Go.Maps

/-- the handle of a type -/
abbrev hnd (t : Nat) : Value := .agg #[.pointer (some ⟨2, t, none⟩)]
/-- package errors' one variable: the handle of 'error' -/
def Glob (w : World) : Prop := w.cell? ⟨0, 0, none⟩ = some (.iface 236 (hnd 99))

theorem er_valueOfP (t : Addr) (w : World) : (ReflectliteValue.unpack (.iface 68 (.pointer (some t)))).run Tryz.prog w
    = .ok (.agg #[.pointer (some ⟨2, 68, none⟩), .pointer (some ⟨w.heap.size, 0, none⟩), .int .u64 150]) (w.alloc (.cells #[.pointer (some t)] 68)) := by kernel_rfl
theorem er_typeP (a : Addr) (w : World) : (ReflectliteValue.methodAny (ReflectliteValue.valueError "reflectlite.Value.Type" 0) (fun t _ _ _ => ReflectliteType.toType t) #[.agg #[.pointer (some ⟨2, 68, none⟩), .pointer (some a), .int .u64 150]]).run Tryz.prog w
    = .ok (.iface 236 (hnd 68)) w := by kernel_rfl
theorem er_methodKind (h : Value) (w : World) : (Go.method 391 236 (.agg #[h]) "Kind").run Tryz.prog w = .ok (197, h) w := by kernel_rfl
theorem er_kindP (w : World) : ((ReflectliteType.abiMethod fun t => (fun a : Nat => Value.int IntKind.u8 (a : Int)) <$> Rtype.kind t) #[.pointer (some ⟨2, 68, none⟩)]).run Tryz.prog w = .ok (.int .u8 22) w := by kernel_rfl
theorem er_kindE (w : World) : ((ReflectliteType.abiMethod fun t => (fun a : Nat => Value.int IntKind.u8 (a : Int)) <$> Rtype.kind t) #[.pointer (some ⟨2, 26, none⟩)]).run Tryz.prog w = .ok (.int .u8 2) w := by kernel_rfl

theorem rlm (z : Sem Value) (f : TypeId → Addr → Nat → Nat → Sem Value) (v : Value) :
    ReflectliteValue.method z f #[v] = (do match ← ReflectliteValue.parts v with | none => z | some (t, a, fl) => f t a fl (fl % 32)) := rfl
theorem er_partsP (a : Addr) (w : World) : (ReflectliteValue.parts (.agg #[.pointer (some ⟨2, 68, none⟩), .pointer (some a), .int .u64 150])).run Tryz.prog w = .ok (some (68, a, 150)) w := by kernel_rfl
theorem er_isNilP (a p : Addr) (W : World) (ha : W.cell? a = some (.pointer (some p))) :
    (ReflectliteValue.method (ReflectliteValue.valueError "reflectlite.Value.IsNil" 0) ReflectliteValue.isNil #[.agg #[.pointer (some ⟨2, 68, none⟩), .pointer (some a), .int .u64 150]]).run Tryz.prog W = .ok (.bool false) W := by
  rw [rlm]
  simp only [Sem.run_bind, er_partsP, Result.andThen]
  simp [ReflectliteValue.isNil, loadVar, isAgg, underlying, Tryz.underlying68, ha, Result.andThen]
theorem er_methodElem (h : Value) (w : World) : (Go.method 391 236 (.agg #[h]) "Elem").run Tryz.prog w = .ok (213, .agg #[h]) w := by kernel_rfl
theorem er_methodImplements (h : Value) (w : World) : (Go.method 391 236 (.agg #[h]) "Implements").run Tryz.prog w = .ok (214, .agg #[h]) w := by kernel_rfl
theorem er_methodAssignableTo (h : Value) (w : World) : (Go.method 391 236 (.agg #[h]) "AssignableTo").run Tryz.prog w = .ok (211, .agg #[h]) w := by kernel_rfl
theorem er_elemP (w : World) : (ReflectliteType.method ReflectliteType.elem #[hnd 68]).run Tryz.prog w = .ok (.iface 236 (hnd 26)) w := by kernel_rfl
theorem er_implementsE (w : World) : (ReflectliteType.relation "Implements" ReflectliteType.implements_ #[hnd 26, .iface 236 (hnd 99)]).run Tryz.prog w = .ok (.bool true) w := by kernel_rfl
theorem er_typeOfF (v : Value) (w : World) : (ReflectliteType.typeOf #[.iface 197 v]).run Tryz.prog w = .ok (.iface 236 (hnd 197)) w := by kernel_rfl
theorem er_typeOfE (v : Value) (w : World) : (ReflectliteType.typeOf #[.iface 26 v]).run Tryz.prog w = .ok (.iface 236 (hnd 26)) w := by kernel_rfl
theorem er_assignableF (w : World) : (ReflectliteType.relation "AssignableTo" ReflectliteType.assignableTo #[hnd 197, .iface 236 (hnd 26)]).run Tryz.prog w = .ok (.bool false) w := by kernel_rfl
theorem er_assignableE (w : World) : (ReflectliteType.relation "AssignableTo" ReflectliteType.assignableTo #[hnd 26, .iface 236 (hnd 26)]).run Tryz.prog w = .ok (.bool true) w := by kernel_rfl
theorem er_valueOfE (k : Int) (w : World) : (ReflectliteValue.unpack (.iface 26 (.int .i64 k))).run Tryz.prog w
    = .ok (.agg #[.pointer (some ⟨2, 26, none⟩), .pointer (some ⟨w.heap.size, 0, none⟩), .int .u64 130]) (w.alloc (.cells #[.int .i64 k] 26)) := by kernel_rfl
theorem er_elemOfP (w : World) : (Rtype.elem? 68).run Tryz.prog w = .ok (some 26) w := by kernel_rfl
theorem er_mkE (p : Addr) (w : World) : (ReflectliteValue.mk 26 p ReflectliteValue.flagAddr).run Tryz.prog w = .ok (.agg #[.pointer (some ⟨2, 26, none⟩), .pointer (some p), .int .u64 386]) w := by kernel_rfl
theorem er_elemV (a p : Addr) (W : World) (ha : W.cell? a = some (.pointer (some p))) :
    (ReflectliteValue.method (ReflectliteValue.valueError "reflectlite.Value.Elem" 0) ReflectliteValue.elem #[.agg #[.pointer (some ⟨2, 68, none⟩), .pointer (some a), .int .u64 150]]).run Tryz.prog W
      = .ok (.agg #[.pointer (some ⟨2, 26, none⟩), .pointer (some p), .int .u64 386]) W := by
  rw [rlm]
  simp only [Sem.run_bind, er_partsP, Result.andThen]
  simp [ReflectliteValue.elem, loadVar, isAgg, underlying, Tryz.underlying68, ha, Result.andThen, er_elemOfP, er_mkE]
theorem rls (v x : Value) : ReflectliteValue.set #[v, x] = (do
    let (some (dst, a, fl), some (src, b, _)) := (← ReflectliteValue.parts v, ← ReflectliteValue.parts x)
      | unsupported (.noEntry "extern/(internal/reflectlite.Value).Set.zeroValue")
    if fl / ReflectliteValue.flagAddr % 2 == 0 then unsupported (.noEntry "extern/(internal/reflectlite.Value).Set.unaddressable")
    let val ← loadVar src b
    if ← Rtype.directlyAssignable dst src then storeVar dst a val
    else if ← Rtype.implements dst src then
      if (← Rtype.kind src) == 20 then
        match val with
        | .nilIface => unsupported (.noEntry "extern/reflectlite: a nil value of one interface type handed on as a value of another")
        | _ => storeVar dst a val
      else storeVar dst a (.iface src val)
    else panicString ("reflectlite.Set: value of type " ++ (← Rtype.spelt src) ++ " is not assignable to type " ++ (← Rtype.spelt dst))
    pure (.tuple #[])) := rfl
theorem er_partsEa (a : Addr) (w : World) : (ReflectliteValue.parts (.agg #[.pointer (some ⟨2, 26, none⟩), .pointer (some a), .int .u64 386])).run Tryz.prog w = .ok (some (26, a, 386)) w := by kernel_rfl
theorem er_partsE (a : Addr) (w : World) : (ReflectliteValue.parts (.agg #[.pointer (some ⟨2, 26, none⟩), .pointer (some a), .int .u64 130])).run Tryz.prog w = .ok (some (26, a, 130)) w := by kernel_rfl
theorem er_direct (w : World) : (Rtype.directlyAssignable 26 26).run Tryz.prog w = .ok true w := by kernel_rfl
theorem er_set (ta b : Addr) (k : Int) (old : Value) (W : World) (hb : W.cell? b = some (.int .i64 k)) (ht : W.cell? ta = some old) (hf : W.frozen? ta = false) :
    (ReflectliteValue.set #[.agg #[.pointer (some ⟨2, 26, none⟩), .pointer (some ta), .int .u64 386], .agg #[.pointer (some ⟨2, 26, none⟩), .pointer (some b), .int .u64 130]]).run Tryz.prog W
      = .ok (.tuple #[]) (W.setCell ta (.int .i64 k)) := by
  rw [rls]
  simp only [Sem.run_bind, er_partsEa, er_partsE, Result.andThen]
  simp [ReflectliteValue.flagAddr, loadVar, isAgg, underlying, Tryz.underlying26, hb, Result.andThen, er_direct, storeVar, Value.cells, storeCells, Addr.add]
  rw [run_store Tryz.prog W ta _ _ (by rfl)]
  simp [ht, hf]

/-! ### what the assertions find -/
theorem er_noAsF (v : Value) (xT : TypeId) (w : World) : (Instr.typeAssert (.iface 197 v) xT 240 true).run Tryz.prog w = .ok (.tuple #[.nilIface, .bool false]) w := run_typeAssert_lacksB Tryz.underlying240 (by kernel_rfl) (by kernel_rfl) v xT w
theorem er_unwrapF (v : Value) (xT : TypeId) (w : World) : (Instr.typeAssert (.iface 197 v) xT 243 true).run Tryz.prog w = .ok (.tuple #[.iface 197 v, .bool true]) w := run_typeAssert_hasB Tryz.underlying243 (by kernel_rfl) v xT w
theorem er_methodUnwrap (v : Value) (w : World) : (Go.method 391 197 v "Unwrap").run Tryz.prog w = .ok (206, v) w := by kernel_rfl
theorem er_noIsF (v : Value) (xT : TypeId) (w : World) : (Instr.typeAssert (.iface 197 v) xT 257 true).run Tryz.prog w = .ok (.tuple #[.nilIface, .bool false]) w := run_typeAssert_lacksB Tryz.underlying257 (by kernel_rfl) (by kernel_rfl) v xT w
theorem er_noIsE (v : Value) (xT : TypeId) (w : World) : (Instr.typeAssert (.iface 26 v) xT 257 true).run Tryz.prog w = .ok (.tuple #[.nilIface, .bool false]) w := run_typeAssert_lacksB Tryz.underlying257 (by kernel_rfl) (by kernel_rfl) v xT w
theorem er_noUnwrapE (v : Value) (xT : TypeId) (w : World) : (Instr.typeAssert (.iface 26 v) xT 243 true).run Tryz.prog w = .ok (.tuple #[.nilIface, .bool false]) w := run_typeAssert_lacksB Tryz.underlying243 (by kernel_rfl) (by kernel_rfl) v xT w
theorem er_noUnwrapsE (v : Value) (xT : TypeId) (w : World) : (Instr.typeAssert (.iface 26 v) xT 245 true).run Tryz.prog w = .ok (.tuple #[.nilIface, .bool false]) w := run_typeAssert_lacksB Tryz.underlying245 (by kernel_rfl) (by kernel_rfl) v xT w
def cmpF : TypeId → Sem Value := fun t => do Go.Extern.Rtype.noPackHeld "Comparable" t; pure (.bool (← typeInfo t).comparable)
theorem er_comparable (w : World) : (Extern.ReflectliteType.method cmpF #[hnd 26]).run Tryz.prog w = .ok (.bool true) w := by kernel_rfl
theorem er_methodComparable (v : Value) (w : World) : (Go.method 391 236 v "Comparable").run Tryz.prog w = .ok (212, v) w := by kernel_rfl

theorem unwrap_any (fb : Nat) (x : Value) (w : World) (hf : w.cell? ⟨fb, 1, none⟩ = some x) :
    Calls Tryz.prog 206 #[.pointer (some ⟨fb, 0, none⟩)] w fun e w' => e = .returned x ∧ w = w' := by
  go_enter Tryz.func206, Tryz.ntmps206
  go_wp2
  go_ret
  exact ⟨rfl, rfl⟩

set_option maxHeartbeats 4000000 in
set_option maxRecDepth 100000 in
theorem as_as (fb : Nat) (t a : Addr) (k : Int) (old : Value) (w : World) (hf : w.cell? ⟨fb, 1, none⟩ = some (.iface 26 (.int .i64 k)))
    (ha : w.cell? a = some (.pointer (some t))) (ht0 : w.cell? t = some old) (hf0 : w.frozen? t = false) :
    Calls Tryz.prog 137 #[.iface 197 (.pointer (some ⟨fb, 0, none⟩)), .iface 68 (.pointer (some t)), .agg #[.pointer (some ⟨2, 68, none⟩), .pointer (some a), .int .u64 150], .iface 236 (hnd 26)] w fun ev w' =>
      ev = .returned (.bool true) ∧ ∃ o1 o2, w' = ((w.alloc o1).alloc o2).setCell t (.int .i64 k) := by
  have h65 := @run_callFunc_extern Tryz.prog 159 _ ReflectliteType.typeOf Tryz.func159 (by kernel_rfl) (by kernel_rfl) (by kernel_rfl) (by kernel_rfl)
  have hAs := @run_callFunc_extern Tryz.prog 211 _ (ReflectliteType.relation "AssignableTo" ReflectliteType.assignableTo) Tryz.func211 (by kernel_rfl) (by kernel_rfl) (by kernel_rfl) (by kernel_rfl)
  have hEl := @run_callFunc_extern Tryz.prog 168 _ (ReflectliteValue.method (ReflectliteValue.valueError "reflectlite.Value.Elem" 0) ReflectliteValue.elem) Tryz.func168 (by kernel_rfl) (by kernel_rfl) (by kernel_rfl) (by kernel_rfl)
  have hVo := @run_callFunc_extern Tryz.prog 134 _ (fun args => ReflectliteValue.unpack (args.getD 0 (.tuple #[]))) Tryz.func134 (by kernel_rfl) (by kernel_rfl) (by kernel_rfl) (by kernel_rfl)
  have hSt := @run_callFunc_extern Tryz.prog 169 _ ReflectliteValue.set Tryz.func169 (by kernel_rfl) (by kernel_rfl) (by kernel_rfl) (by kernel_rfl)
  have tF := er_typeOfF
  have tE := er_typeOfE
  have mA := er_methodAssignableTo
  have aF := er_assignableF
  have aE := er_assignableE
  have nA := er_noAsF
  have uF := er_unwrapF
  have mU := er_methodUnwrap
  have vE := er_valueOfE
  have hal := World.block_lt_of_cell? w a ha
  have htl := World.block_lt_of_cell? w t ht0
  have hfl : fb < w.heap.size := World.block_lt_of_cell? w ⟨fb, 1, none⟩ hf
  have el := fun o => er_elemV a t (w.alloc o) (by rw [World.cell?_alloc_lt _ _ a hal]; exact ha)
  have st := fun o => er_set t ⟨w.heap.size + 1, 0, none⟩ k old ((w.alloc o).alloc (.cells #[.int .i64 k] 26))
    (by rw [World.cell?_alloc_at _ _ _ _ (by simp)]; rfl)
    (by rw [World.cell?_alloc_lt _ _ t (by simp; omega), World.cell?_alloc_lt _ _ t htl]; exact ht0)
    (by rw [World.frozen?_alloc_old _ _ t (by simp; omega), World.frozen?_alloc_old _ _ t (Nat.ne_of_lt htl)]; exact hf0)
  have hf2 : ∀ o, (w.alloc o).cell? ⟨fb, 1, none⟩ = some (.iface 26 (.int .i64 k)) := fun o => by rw [World.cell?_alloc_lt _ _ ⟨fb, 1, none⟩ hfl]; exact hf
  have hU := fun o => unwrap_any fb _ (w.alloc o) (hf2 o)
  clear hf ha ht0 hf0 hf2
  go_enter Tryz.func137, Tryz.ntmps137
  go_wp2
  refine wp_loop_rounds 2 ?_
  rw [rounds_succ]
  go_wp2_with (go_at_call 206; refine (hU _).mono ?_; rintro e w' ⟨rfl, rfl⟩)
  rw [rounds_succ]
  go_wp2
  go_ret
  exact ⟨rfl, _, _, rfl⟩

set_option maxHeartbeats 4000000 in
set_option maxRecDepth 100000 in
theorem as_any (fb : Nat) (t : Addr) (k : Int) (old : Value) (w : World) (hg : Glob w) (hf : w.cell? ⟨fb, 1, none⟩ = some (.iface 26 (.int .i64 k)))
    (ht0 : w.cell? t = some old) (hf0 : w.frozen? t = false) :
    Calls Tryz.prog 92 #[.iface 197 (.pointer (some ⟨fb, 0, none⟩)), .iface 68 (.pointer (some t))] w fun ev w' =>
      ev = .returned (.bool true) ∧ ∃ o1 o2 o3 o4, w' = ((((w.alloc o1).alloc o2).alloc o3).alloc o4).setCell t (.int .i64 k) := by
  have hVo := @run_callFunc_extern Tryz.prog 134 _ (fun args => ReflectliteValue.unpack (args.getD 0 (.tuple #[]))) Tryz.func134 (by kernel_rfl) (by kernel_rfl) (by kernel_rfl) (by kernel_rfl)
  have hTy := @run_callFunc_extern Tryz.prog 135 _ (ReflectliteValue.methodAny (ReflectliteValue.valueError "reflectlite.Value.Type" 0) (fun t _ _ _ => ReflectliteType.toType t)) Tryz.func135 (by kernel_rfl) (by kernel_rfl) (by kernel_rfl) (by kernel_rfl)
  have hIs := @run_callFunc_extern Tryz.prog 136 _ (ReflectliteValue.method (ReflectliteValue.valueError "reflectlite.Value.IsNil" 0) ReflectliteValue.isNil) Tryz.func136 (by kernel_rfl) (by kernel_rfl) (by kernel_rfl) (by kernel_rfl)
  have hKi := @run_callFunc_extern Tryz.prog 197 _ (ReflectliteType.abiMethod fun t => do pure (.int .u8 (← Rtype.kind t))) Tryz.func197 (by kernel_rfl) (by kernel_rfl) (by kernel_rfl) (by kernel_rfl)
  have hEl := @run_callFunc_extern Tryz.prog 213 _ (ReflectliteType.method ReflectliteType.elem) Tryz.func213 (by kernel_rfl) (by kernel_rfl) (by kernel_rfl) (by kernel_rfl)
  have hIm := @run_callFunc_extern Tryz.prog 214 _ (ReflectliteType.relation "Implements" ReflectliteType.implements_) Tryz.func214 (by kernel_rfl) (by kernel_rfl) (by kernel_rfl) (by kernel_rfl)
  have f6 := er_valueOfP
  have f7 := er_typeP
  have mK := er_methodKind
  have mE := er_methodElem
  have mI := er_methodImplements
  have kP := er_kindP
  have kE := er_kindE
  have eP := er_elemP
  have iE := er_implementsE
  have hlt : 0 < w.heap.size := World.block_lt_of_cell? w _ hg
  have htl := World.block_lt_of_cell? w t ht0
  have hfl : fb < w.heap.size := World.block_lt_of_cell? w ⟨fb, 1, none⟩ hf
  have n8 := fun o2 => er_isNilP ⟨w.heap.size, 0, none⟩ t ((w.alloc (.cells #[.pointer (some t)] 68)).alloc o2) (by simp [World.cell?_alloc_lt _ _ ⟨w.heap.size, 0, none⟩])
  have hg2 : ∀ o1 o2, ((w.alloc o1).alloc o2).cell? ⟨0, 0, none⟩ = some (.iface 236 (hnd 99)) := fun o1 o2 => by
    rw [World.cell?_alloc_lt _ _ ⟨0, 0, none⟩ (by simp), World.cell?_alloc_lt _ _ ⟨0, 0, none⟩ hlt]; exact hg
  have hA := fun o2 => as_as fb t ⟨w.heap.size, 0, none⟩ k old ((w.alloc (.cells #[.pointer (some t)] 68)).alloc o2)
    (by rw [World.cell?_alloc_lt _ _ ⟨fb, 1, none⟩ (by simp; omega), World.cell?_alloc_lt _ _ ⟨fb, 1, none⟩ hfl]; exact hf)
    (by simp [World.cell?_alloc_lt _ _ ⟨w.heap.size, 0, none⟩])
    (by rw [World.cell?_alloc_lt _ _ t (by simp; omega), World.cell?_alloc_lt _ _ t htl]; exact ht0)
    (by rw [World.frozen?_alloc_old _ _ t (by simp; omega), World.frozen?_alloc_old _ _ t (Nat.ne_of_lt htl)]; exact hf0)
  clear hg hf ht0 hf0
  go_enter Tryz.func92, Tryz.ntmps92
  go_wp2_with (go_at_call 137; refine (hA _).mono ?_; rintro e w' ⟨rfl, o1, o2, rfl⟩)
  go_ret
  exact ⟨rfl, _, _, _, _, rfl⟩

/-- an error value that wraps a number; 0: there is none -/
def ErrV (w : World) (v : Value) (k : Int) : Prop :=
  (k = 0 ∧ v = .nilIface) ∨ (k ≠ 0 ∧ ∃ (fb : Nat) (pg : Int), v = .iface 197 (.pointer (some ⟨fb, 0, none⟩)) ∧ w.heap[fb]? = some (.cells #[.int .i64 pg, .iface 26 (.int .i64 k)] 199 (0, 0)))
theorem ErrV.made {w w' : World} {v : Value} {k : Int} (h : ErrV w v k) (hB : Below w.heap.size w w') : ErrV w' v k := by
  rcases h with h | ⟨h, fb, pg, hv, hb⟩
  · exact .inl h
  · exact .inr ⟨h, fb, pg, hv, (hB.block fb (lt_of hb)).trans hb⟩

set_option maxRecDepth 100000 in
theorem fault_any (pg k : Int) (w : World) : Calls Tryz.prog 91 #[.int .i64 pg, .int .i64 k] w fun e w' => ∃ v, e = .returned v ∧ ErrV w' v k ∧ Below w.heap.size w w' := by
  by_cases hk : k = 0
  · subst hk
    go_enter Tryz.func91, Tryz.ntmps91
    go_wp2
    go_ret
    exact ⟨_, rfl, .inl ⟨rfl, rfl⟩, Below.refl _ _⟩
  · have hk' : (k == 0) = false := by simpa using hk
    have HK := Lib.hid hk
    clear hk
    go_enter Tryz.func91, Tryz.ntmps91
    go_wp2
    go_ret
    exact ⟨_, rfl, .inr ⟨HK.out, _, pg, rfl, heap_alloc_new' _ _⟩, (Below.refl _ _).alloc (Nat.le_refl _) _⟩

set_option maxHeartbeats 1000000 in
set_option maxRecDepth 100000 in
theorem number_any (v : Value) (k : Int) (w : World) (h : ErrV w v k) (hg : Glob w) : Calls Tryz.prog 54 #[v] w fun e w' => e = .returned (.int .i64 k) ∧ Below w.heap.size w w' := by
  rcases h with ⟨rfl, rfl⟩ | ⟨hk, fb, pg, rfl, hb⟩
  · go_enter Tryz.func54, Tryz.ntmps54
    go_wp2
    go_ret
    exact ⟨rfl, (Below.refl _ _).alloc (Nat.le_refl _) _⟩
  · have hlt := World.block_lt_of_cell? w _ hg
    have hfl := lt_of hb
    have hA := fun o old (ho : (w.alloc o).cell? ⟨w.heap.size, 0, none⟩ = some old) (hz : (w.alloc o).frozen? ⟨w.heap.size, 0, none⟩ = false) => as_any fb ⟨w.heap.size, 0, none⟩ k old (w.alloc o)
      (by unfold Glob; rw [World.cell?_alloc_lt _ _ _ hlt]; exact hg)
      (by rw [World.cell?_alloc_lt _ _ ⟨fb, 1, none⟩ hfl, cell_of hb]; rfl) ho hz
    have HA := Lib.hid hA
    clear hA hg hb
    go_enter Tryz.func54, Tryz.ntmps54
    go_wp2_with fail
    refine (HA.out _ _ (by simp; rfl) (by simp)).mono ?_
    rintro e w' ⟨rfl, o1, o2, o3, o4, rfl⟩
    clear HA
    go_wp2
    go_ret
    exact ⟨rfl, ((((((Below.refl _ w).alloc (Nat.le_refl _) _).alloc (by simp) _).alloc (by simp; omega) _).alloc (by simp; omega) _).alloc (by simp; omega) _)⟩

/-- errors.Is at a number's error: is it the number? -/
theorem is_nil (k : Int) (w : World) : Calls Tryz.prog 115 #[.nilIface, .iface 26 (.int .i64 k)] w fun e w' => e = .returned (.bool false) ∧ w = w' := by
  have hn := run_eql_iface_nil_left (P := Tryz.prog) w 26 (.int .i64 k) Tryz.underlying99
  go_enter Tryz.func115, Tryz.ntmps115
  go_wp2
  go_ret
  exact ⟨rfl, rfl⟩
section
variable {P : Program} (w : World)
theorem run_equalIn_iface_int (d : Nat) {ti tn : TypeId} {ms : Array (String × TypeId)} {i : TypeInfo} {k : IntKind} (a b : Int)
    (hi : P.underlying ti = some (.interface ms)) (hn : P.underlying tn = some (.int k)) (hinfo : P.info? tn = some i) (hcomp : i.comparable = true) :
    (Op.equalIn (d + 2) ti (.iface tn (.int k a)) (.iface tn (.int k b))).run P w = .ok (a == b) w := by
  simp [Op.equalIn, run_underlying hi, run_underlying hn, typeInfo, hinfo, hcomp]
theorem run_eql_iface_int {ti tn : TypeId} {ms : Array (String × TypeId)} {i : TypeInfo} {k : IntKind} (a b : Int)
    (hi : P.underlying ti = some (.interface ms)) (hn : P.underlying tn = some (.int k)) (hinfo : P.info? tn = some i) (hcomp : i.comparable = true) :
    (binOp .eql ti (.iface tn (.int k a)) (.iface tn (.int k b))).run P w = .ok (.bool (a == b)) w := by
  simp only [binOp]
  simp [Op.equal, Op.maxDepth, run_equalIn_iface_int w 9998 a b hi hn hinfo hcomp]
end
theorem er_comp : (Tryz.prog.info? 26).map (·.comparable) = some true := by kernel_rfl
theorem er_eql (k : Int) (w : World) : (binOp .eql 99 (.iface 26 (.int .i64 k)) (.iface 26 (.int .i64 k))).run Tryz.prog w = .ok (.bool true) w := by
  obtain ⟨i, hi, hcmp⟩ := Option.map_eq_some_iff.1 er_comp
  rw [run_eql_iface_int w k k Tryz.underlying99 Tryz.underlying26 hi hcmp]
  simp
set_option maxHeartbeats 4000000 in
set_option maxRecDepth 100000 in
theorem is_is (fb : Nat) (k : Int) (w : World) (hf : w.cell? ⟨fb, 1, none⟩ = some (.iface 26 (.int .i64 k))) :
    Calls Tryz.prog 160 #[.iface 197 (.pointer (some ⟨fb, 0, none⟩)), .iface 26 (.int .i64 k), .bool true] w fun e w' => e = .returned (.bool true) ∧ w = w' := by
  have nF := er_noIsF
  have uF := er_unwrapF
  have mU := er_methodUnwrap
  have hty := run_eql_iface_types (P := Tryz.prog) 197 26 (.pointer (some ⟨fb, 0, none⟩)) (.int .i64 k) Tryz.underlying99 (by decide) w
  have hU := unwrap_any fb _ w hf
  have hQ := er_eql k
  clear hf
  go_enter Tryz.func160, Tryz.ntmps160
  go_wp2
  refine wp_loop_rounds 2 ?_
  rw [rounds_succ]
  go_wp2_with (go_at_call 206; refine hU.mono ?_; rintro e w' ⟨rfl, rfl⟩)
  rw [rounds_succ]
  go_wp2
  go_ret
  exact ⟨rfl, rfl⟩
set_option maxHeartbeats 4000000 in
set_option maxRecDepth 100000 in
theorem is_fault (fb : Nat) (k : Int) (w : World) (hf : w.cell? ⟨fb, 1, none⟩ = some (.iface 26 (.int .i64 k))) :
    Calls Tryz.prog 115 #[.iface 197 (.pointer (some ⟨fb, 0, none⟩)), .iface 26 (.int .i64 k)] w fun e w' => e = .returned (.bool true) ∧ w = w' := by
  have h65 := @run_callFunc_extern Tryz.prog 159 _ ReflectliteType.typeOf Tryz.func159 (by kernel_rfl) (by kernel_rfl) (by kernel_rfl) (by kernel_rfl)
  have hCo := @run_callFunc_extern Tryz.prog 212 _ (Extern.ReflectliteType.method cmpF) Tryz.func212 (by kernel_rfl) (by kernel_rfl) (by kernel_rfl) (by kernel_rfl)
  have tE := er_typeOfE
  have cE := er_comparable
  have mC := er_methodComparable
  have hI := is_is fb k w hf
  clear hf
  go_enter Tryz.func115, Tryz.ntmps115
  go_wp2_with (go_at_call 160; refine hI.mono ?_; rintro e w' ⟨rfl, rfl⟩)
  go_ret
  exact ⟨rfl, rfl⟩
end Go.Proofs.YtmgcaohpbaiiaaaGreatDoor
