/- Plain words over this program's worlds: a frame over a set of blocks, and maps keyed by int whose values are told exactly. -/
import Derived.Test.YtdoankamaobkoaaGreatDoorProg
import Derived.WalkKit
import Derived.WalkSpells
import Derived.WalkLawsBesides
import Derived.Maps.OwnOps
import Derived.Maps.OwnSet
import Derived.Maps.RangeWalk
import Derived.Maps.Ext
import Derived.Deep.QuietTactic
import Derived.BigQuiet
import Derived.Lib.Hide
set_option linter.unusedSimpArgs false
set_option linter.unusedVariables false
namespace Go.Proofs.YtdoankamaobkoaaGreatDoor
open Go.RowKit Go.Maps

/-! ### lists of pairs, by rising keys -/
section
variable {α : Type}
def ins (k : Int) (v : α) : List (Int × α) → List (Int × α)
  | [] => [(k, v)]
  | p :: r => if k < p.1 then (k, v) :: p :: r else if p.1 = k then (k, v) :: r else p :: ins k v r
def del (k : Int) (l : List (Int × α)) : List (Int × α) := l.filter fun p => !decide (p.1 = k)
def get (k : Int) (l : List (Int × α)) : Option α := (l.find? fun p => decide (p.1 = k)).map (·.2)
def Srt (l : List (Int × α)) : Prop := l.Pairwise fun p q => p.1 < q.1

theorem srt_del {k : Int} {l : List (Int × α)} (h : Srt l) : Srt (del k l) := List.Pairwise.filter _ h
theorem mem_ins {k : Int} {v : α} {q : Int × α} : ∀ {l : List (Int × α)}, q ∈ ins k v l → q = (k, v) ∨ q ∈ l
  | [], h => by simp [ins] at h; exact .inl h
  | p :: r, h => by
    unfold ins at h
    split at h
    · simpa using h
    · split at h
      · simp at h ⊢; rcases h with h | h
        · exact .inl h
        · exact .inr (.inr h)
      · simp at h ⊢; rcases h with h | h
        · exact .inr (.inl h)
        · rcases mem_ins h with h | h
          · exact .inl h
          · exact .inr (.inr h)
theorem srt_ins {k : Int} {v : α} : ∀ {l : List (Int × α)}, Srt l → Srt (ins k v l)
  | [], _ => by simp [ins, Srt]
  | p :: r, h => by
    obtain ⟨h1, h2⟩ := List.pairwise_cons.1 h
    unfold ins
    split
    · rename_i hk
      refine List.pairwise_cons.2 ⟨fun q hq => ?_, h⟩
      rcases List.mem_cons.1 hq with rfl | hq
      · exact hk
      · exact Int.lt_trans hk (h1 q hq)
    · split
      · rename_i hk
        exact List.pairwise_cons.2 ⟨fun q hq => by have := h1 q hq; simpa [← hk] using this, h2⟩
      · rename_i hk hk'
        refine List.pairwise_cons.2 ⟨fun q hq => ?_, srt_ins h2⟩
        rcases mem_ins hq with rfl | hq
        · simp; omega
        · exact h1 q hq
theorem del_none {k : Int} {l : List (Int × α)} (h : ∀ p ∈ l, p.1 ≠ k) : del k l = l := by
  unfold del; exact List.filter_eq_self.2 fun p hp => by simpa using h p hp
theorem get_none {k : Int} {l : List (Int × α)} (h : get k l = none) : ∀ p ∈ l, p.1 ≠ k := by
  simpa [get] using h
theorem get_mem {k : Int} {v : α} {l : List (Int × α)} (h : get k l = some v) : (k, v) ∈ l := by
  unfold get at h
  cases hf : l.find? (fun p => decide (p.1 = k)) with
  | none => simp [hf] at h
  | some p =>
    simp [hf] at h
    have h1 := List.find?_some hf
    have h2 := List.mem_of_find?_eq_some hf
    simp at h1
    obtain ⟨a, b⟩ := p
    simp at h h1
    subst h h1
    exact h2
theorem mem_get {k : Int} {v : α} {l : List (Int × α)} (hs : Srt l) (h : (k, v) ∈ l) : get k l = some v := by
  induction l with
  | nil => simp at h
  | cons p r ih =>
    obtain ⟨h1, h2⟩ := List.pairwise_cons.1 hs
    unfold get
    rcases List.mem_cons.1 h with rfl | h'
    · simp
    · have hlt := h1 _ h'
      have hne : decide (p.1 = k) = false := by simp; simp at hlt; omega
      simp only [List.find?_cons, hne]
      exact ih h2 h'
theorem get_ins_same {k : Int} {v : α} : ∀ {l : List (Int × α)}, get k (ins k v l) = some v
  | [] => by simp [ins, get]
  | p :: r => by
    unfold ins
    split
    · simp [get]
    · split
      · simp [get]
      · rename_i hk
        have := get_ins_same (k := k) (v := v) (l := r)
        unfold get at this ⊢
        simp [List.find?_cons, hk, this]
theorem get_ins_other {k k' : Int} {v : α} (hne : k' ≠ k) : ∀ {l : List (Int × α)}, get k' (ins k v l) = get k' l
  | [] => by simp [ins, get, Ne.symm hne]
  | p :: r => by
    unfold ins
    split
    · simp [get, List.find?_cons, Ne.symm hne]
    · split
      · rename_i hk
        simp [get, List.find?_cons, Ne.symm hne, hk]
      · have := get_ins_other (v := v) hne (l := r)
        unfold get at this ⊢
        by_cases hp : p.1 = k'
        · simp [List.find?_cons, hp]
        · simp [List.find?_cons, hp, this]
theorem get_del_same {k : Int} {l : List (Int × α)} : get k (del k l) = none := by
  simp [get, del]
theorem get_del_other {k k' : Int} (hne : k' ≠ k) {l : List (Int × α)} : get k' (del k l) = get k' l := by
  unfold get del
  rw [List.find?_filter]
  congr 2
  funext p
  by_cases hp : p.1 = k'
  · simp [hp, hne]
  · simp [hp]
theorem ins_length_le {k : Int} {v : α} : ∀ {l : List (Int × α)}, (ins k v l).length ≤ l.length + 1
  | [] => by simp [ins]
  | p :: r => by
    unfold ins
    have := ins_length_le (k := k) (v := v) (l := r)
    split
    · simp
    · split <;> simp <;> omega
theorem ins_length {k : Int} {v : α} : ∀ {l : List (Int × α)}, get k l = none → (ins k v l).length = l.length + 1
  | [], _ => by simp [ins]
  | p :: r, h => by
    have hp := get_none h p (by simp)
    unfold ins
    split
    · simp
    · simp
      refine ins_length ?_
      unfold get at h ⊢
      simpa [List.find?_cons, hp] using h
theorem del_length_le {k : Int} {l : List (Int × α)} : (del k l).length ≤ l.length := List.length_filter_le _ _
theorem del_length {k : Int} : ∀ {l : List (Int × α)}, Srt l → get k l ≠ none → (del k l).length + 1 = l.length
  | [], _, h => by simp [get] at h
  | p :: r, hs, h => by
    obtain ⟨h1, h2⟩ := List.pairwise_cons.1 hs
    by_cases hp : p.1 = k
    · have : del k (p :: r) = r := by
        unfold del
        rw [List.filter_cons]
        simp [hp]
        intro a b hab
        have := h1 _ hab
        simp at this
        omega
      rw [this]; simp
    · have : del k (p :: r) = p :: del k r := by simp [del, List.filter_cons, hp]
      rw [this]
      simp
      refine del_length h2 ?_
      unfold get at h ⊢
      simpa [List.find?_cons, hp] using h
end

/-! ### a map keyed by int, its values told exactly -/
def RV (v : Value) : Option (DataW Value × List MemPlace) := some (.held v, [])
def encL (l : List (Int × Value)) : List (Lit × DataW Value) := l.map fun p => (.int .i64 p.1, .held p.2)
theorem enc_insert (k : Int) (v : Value) : ∀ {l : List (Int × Value)}, Srt l → DataW.insert (.int .i64 k, .held v) (encL (del k l)) = encL (ins k v l)
  | [], _ => rfl
  | p :: r, hs => by
    obtain ⟨h1, h2⟩ := List.pairwise_cons.1 hs
    have ih := enc_insert k v h2
    by_cases hp : p.1 = k
    · have hd : del k (p :: r) = r := by
        have := del_none (k := k) (l := r) (fun q hq => by have := h1 q hq; omega)
        unfold del at this ⊢
        rw [List.filter_cons]; simpa [hp] using this
      rw [hd]
      have hi : ins k v (p :: r) = (k, v) :: r := by unfold ins; simp [hp]
      rw [hi]
      cases r with
      | nil => rfl
      | cons q r' =>
        have := h1 q (by simp)
        simp [encL, DataW.insert, Lit.before]
        intro hh; omega
    · have hd : del k (p :: r) = p :: del k r := by simp [del, List.filter_cons, hp]
      rw [hd]
      by_cases hlt : k < p.1
      · have hi : ins k v (p :: r) = (k, v) :: p :: r := by unfold ins; simp [hlt]
        have hr : del k r = r := del_none fun q hq => by have := h1 q hq; omega
        rw [hi, hr]
        simp [encL, DataW.insert, Lit.before, hlt]
      · have hi : ins k v (p :: r) = p :: ins k v r := by simp only [ins, if_neg hlt, if_neg hp]
        rw [hi]
        have e : encL (p :: del k r) = (.int .i64 p.1, .held p.2) :: encL (del k r) := rfl
        rw [e]
        unfold DataW.insert
        simp only [Lit.before, decide_eq_true_eq, if_neg hlt]
        rw [ih]; rfl
theorem enc_filter (k : Int) (l : List (Int × Value)) : (encL l).filter (fun p => !p.1.sameKey (.int .i64 k)) = encL (del k l) := by
  unfold encL del
  rw [List.filter_map]
  simp [Function.comp_def, Lit.sameKey]
theorem enc_put (k : Int) (v : Value) {l : List (Int × Value)} (hs : Srt l) : (DataW.map (encL l)).put (.int .i64 k) (.held v) = .map (encL (ins k v l)) := by
  unfold DataW.put
  simp only [enc_filter, enc_insert k v hs]
theorem enc_del (k : Int) (l : List (Int × Value)) : (DataW.map (encL l)).del (.int .i64 k) = .map (encL (del k l)) := by
  unfold DataW.del
  simp only [enc_filter]
theorem enc_find (k : Int) (l : List (Int × Value)) : (encL l).find? (fun p => p.1.sameKey (.int .i64 k)) = (l.find? fun p => decide (p.1 = k)).map fun p => (.int .i64 p.1, .held p.2) := by
  unfold encL
  rw [List.find?_map]
  congr 1
  simp [Function.comp_def, Lit.sameKey]
theorem enc_has (k : Int) (l : List (Int × Value)) : Maps.has (DataW.map (encL l)) (.int .i64 k) = (get k l).isSome := by
  unfold Maps.has get
  induction l with
  | nil => rfl
  | cons p r ih =>
    by_cases hp : p.1 = k
    · simp [encL, hp, Lit.sameKey]
    · simp [encL, hp, Lit.sameKey]
      simpa [encL, Lit.sameKey] using ih
theorem enc_at (k : Int) (l : List (Int × Value)) (z : DataW Value) : (DataW.map (encL l)).atKey (.int .i64 k) z = match get k l with | some v => .held v | none => z := by
  unfold DataW.atKey get
  simp only [enc_find]
  cases (l.find? fun p => decide (p.1 = k)) <;> rfl

/-- Block b of w is a map from int that holds just the pairs of l. -/
structure MapV (w : World) (b : Nat) (l : List (Int × Value)) : Prop where
  own : w.ownsMap Tryz.prog 3 RV b l.length (.map (encL l))
  srt : Srt l
  wf : ∀ p ∈ l, (Lit.int .i64 p.1).wf = true

theorem key_law : Keyed Tryz.prog 3 := int_keyed Tryz.underlying3
theorem zero_str (w : World) : (zeroValue 9).run Tryz.prog w = .ok (.string ⟨#[]⟩) w := by kernel_rfl
theorem zero_page (w : World) : (zeroValue 114).run Tryz.prog w = .ok (.pointer none) w := by kernel_rfl

theorem MapV.lt {w : World} {b : Nat} {l : List (Int × Value)} (h : MapV w b l) : b < w.heap.size := h.own.lt
theorem MapV.obj {w : World} {b : Nat} {l : List (Int × Value)} (h : MapV w b l) : ∃ es c, w.heap[b]? = some (.map es c) := let ⟨es, c, hb, _⟩ := h.own; ⟨es, c, hb⟩
theorem MapV.congr {w w' : World} {b : Nat} {l : List (Int × Value)} (h : MapV w b l) (hb : w'.heap[b]? = w.heap[b]?) : MapV w' b l := by
  obtain ⟨⟨es, c, h1, h2⟩, hs, hw⟩ := h
  exact ⟨⟨es, c, hb.trans h1, h2⟩, hs, hw⟩

section
variable {w : World} {b : Nat} {l : List (Int × Value)} {t e : TypeId} {k : Int}
theorem MapV.look (h : MapV w b l) (ht : Tryz.prog.underlying t = some (.map 3 e)) {z : Value} (hz : (zeroValue e).run Tryz.prog w = .ok z w) (hk : (Lit.int .i64 k).wf = true) :
    (Instr.lookup t (.map (some b)) (.int .i64 k) false).run Tryz.prog w = .ok ((get k l).getD z) w := by
  obtain ⟨v, ps, hrun, hR⟩ := h.own.lookup key_law ht hz (zd := .held z) (zp := []) rfl (keyOf_int_mk Tryz.underlying3 hk)
  rw [hrun]
  simp only [RV, enc_at, Option.some.injEq, Prod.mk.injEq] at hR
  obtain ⟨hv, _⟩ := hR
  cases hg : get k l with
  | none => rw [hg] at hv; simp at hv; simp [hv]
  | some x => rw [hg] at hv; simp at hv; simp [hv]
theorem MapV.look_ok (h : MapV w b l) (ht : Tryz.prog.underlying t = some (.map 3 e)) {z : Value} (hz : (zeroValue e).run Tryz.prog w = .ok z w) (hk : (Lit.int .i64 k).wf = true) :
    (Instr.lookup t (.map (some b)) (.int .i64 k) true).run Tryz.prog w = .ok (.tuple #[(get k l).getD z, .bool (get k l).isSome]) w := by
  obtain ⟨v, ps, hrun, hR⟩ := h.own.look_ok key_law ht hz (zd := .held z) (zp := []) rfl (keyOf_int_mk Tryz.underlying3 hk)
  rw [hrun, enc_has]
  simp only [RV, enc_at, Option.some.injEq, Prod.mk.injEq] at hR
  obtain ⟨hv, _⟩ := hR
  cases hg : get k l with
  | none => rw [hg] at hv; simp at hv; simp [hv]
  | some x => rw [hg] at hv; simp at hv; simp [hv]
theorem MapV.len (h : MapV w b l) (ht : Tryz.prog.underlying t = some (.map 3 e)) (ty : TypeId) :
    (Builtin.len_ #[t] ty #[.map (some b)]).run Tryz.prog w = .ok (.int .i64 l.length) w := by
  rw [h.own.len ht]; simp [Maps.size, encL]
end

/-! ### a frame over a set of blocks -/
structure Upd (F : Nat → Prop) (w w' : World) : Prop where
  os : w'.os = w.os
  tape : w'.tape = w.tape
  output : w'.output = w.output
  size : w.heap.size ≤ w'.heap.size
  block : ∀ b, b < w.heap.size → ¬ F b → w'.heap[b]? = w.heap[b]?

theorem Upd.refl (F : Nat → Prop) (w : World) : Upd F w w := ⟨rfl, rfl, rfl, Nat.le_refl _, fun _ _ _ => rfl⟩
theorem Upd.mono {F G : Nat → Prop} {w w' : World} (h : Upd F w w') (hg : ∀ b, b < w.heap.size → F b → G b) : Upd G w w' :=
  ⟨h.os, h.tape, h.output, h.size, fun b hb hn => h.block b hb fun hf => hn (hg b hb hf)⟩
theorem Upd.then {F G : Nat → Prop} {a b c : World} (h : Upd F a b) (k : Upd G b c) (hg : ∀ x, x < a.heap.size → G x → F x) : Upd F a c :=
  ⟨k.os.trans h.os, k.tape.trans h.tape, k.output.trans h.output, Nat.le_trans h.size k.size, fun x hx hn =>
    (k.block x (Nat.lt_of_lt_of_le hx h.size) fun hG => hn (hg x hx hG)).trans (h.block x hx hn)⟩
theorem Upd.trans {F : Nat → Prop} {a b c : World} (h : Upd F a b) (k : Upd F b c) : Upd F a c := h.then k fun _ _ x => x
theorem Upd.drew {F : Nat → Prop} {a w : World} (h : Upd F a w) : Upd F a w.drew := ⟨h.os, h.tape, h.output, h.size, h.block⟩
theorem Upd.drewN {F : Nat → Prop} {a w : World} (h : Upd F a w) (n : Nat) : Upd F a (w.drewN n) := ⟨h.os, h.tape, h.output, h.size, h.block⟩
theorem Upd.alloc {F : Nat → Prop} {a w : World} (h : Upd F a w) (o : Obj) : Upd F a (w.alloc o) :=
  ⟨h.os, h.tape, h.output, by simp; have := h.size; omega, fun b hb hn => (Below.heap_alloc w o b (Nat.lt_of_lt_of_le hb h.size)).trans (h.block b hb hn)⟩
theorem Upd.setCell {F : Nat → Prop} {a w : World} (h : Upd F a w) (p : Addr) (hp : p.block < a.heap.size → F p.block) (u : Value) : Upd F a (w.setCell p u) :=
  ⟨h.os, h.tape, h.output, by simpa using h.size, fun b hb hn => (Below.heap_setCell w p u b (fun e => hn (e ▸ hp (e ▸ hb)))).trans (h.block b hb hn)⟩
theorem Upd.grown {F : Nat → Prop} {a w w' : World} {row : Option Nat} (h : Upd F a w) (hg : w.grownBy w' row) (hr : ∀ k, row = some k → k < a.heap.size → F k) : Upd F a w' :=
  ⟨hg.os.trans h.os, hg.tape.trans h.tape, hg.output.trans h.output, Nat.le_trans h.size hg.size, fun b hb hn =>
    (hg.block b (Nat.lt_of_lt_of_le hb h.size) (fun e => hn (hr b e.symm hb))).trans (h.block b hb hn)⟩
theorem Upd.below {F : Nat → Prop} {a b : World} {B : Nat} (h : Below B a b) (hB : ∀ x, x < a.heap.size → B ≤ x → F x) : Upd F a b :=
  ⟨h.os, h.tape, h.output, h.size, fun x hx hn => h.block x (Nat.lt_of_not_le fun hle => hn (hB x hx hle))⟩
theorem Upd.toBelow {F : Nat → Prop} {a b : World} {B : Nat} (h : Upd F a b) (hB : B ≤ a.heap.size) (hF : ∀ x, x < B → ¬ F x) : Below B a b :=
  ⟨h.os, h.tape, h.output, h.size, fun x hx => h.block x (Nat.lt_of_lt_of_le hx hB) (hF x hx)⟩
theorem Upd.cell {F : Nat → Prop} {w w' : World} (h : Upd F w w') {p : Addr} (hp : p.block < w.heap.size) (hn : ¬ F p.block) : w'.cell? p = w.cell? p := World.cell?_of_block (w := w) (h.block p.block hp hn)
theorem Upd.frozen {F : Nat → Prop} {w w' : World} (h : Upd F w w') {p : Addr} (hp : p.block < w.heap.size) (hn : ¬ F p.block) : w'.frozen? p = w.frozen? p := World.frozen?_of_block (w := w) (h.block p.block hp hn)

/-- F, and what was made between w and w'. -/
def ext (F : Nat → Prop) (w w' : World) : Nat → Prop := fun b => F b ∨ (w.heap.size ≤ b ∧ b < w'.heap.size)

/-- A map's block has turned, and nothing else. -/
structure Turn (w w' : World) (b : Nat) : Prop where
  os : w'.os = w.os
  tape : w'.tape = w.tape
  output : w'.output = w.output
  size : w'.heap.size = w.heap.size
  block : ∀ x, x ≠ b → w'.heap[x]? = w.heap[x]?
  cell : ∀ a, w'.cell? a = w.cell? a
  frozen : ∀ a, w'.frozen? a = w.frozen? a
theorem turn_of {w w' : World} {b : Nat} (h : w.mapTurned w' b) : Turn w w' b := by
  obtain ⟨es, clock, es', clock', hb, rfl⟩ := h
  have hs := MapKept.heap_set (o' := .map es' clock') hb
  refine ⟨rfl, rfl, rfl, by simp [ChangeMaps.setBlock], fun x hx => hs.2 x hx, fun a => ?_, fun a => ?_⟩
  · by_cases ha : a.block = b
    · simp only [World.cell?, ha, hb]
      rw [show (ChangeMaps.setBlock w b (.map es' clock')).heap[b]? = some (.map es' clock') from hs.1]
    · exact World.cell?_of_block (hs.2 _ ha)
  · by_cases ha : a.block = b
    · simp only [World.frozen?, ha, hb]
      rw [show (ChangeMaps.setBlock w b (.map es' clock')).heap[b]? = some (.map es' clock') from hs.1]
    · exact World.frozen?_of_block (hs.2 _ ha)
theorem Upd.turn {F : Nat → Prop} {a w w' : World} {b : Nat} (h : Upd F a w) (ht : Turn w w' b) (hb : b < a.heap.size → F b) : Upd F a w' :=
  ⟨ht.os.trans h.os, ht.tape.trans h.tape, ht.output.trans h.output, by rw [ht.size]; exact h.size, fun x hx hn =>
    (ht.block x (fun e => hn (e ▸ hb (e ▸ hx)))).trans (h.block x hx hn)⟩

section
variable {w : World} {b : Nat} {l : List (Int × Value)} {t e : TypeId} {k : Int}
theorem wf_ins {v : Value} (hl : ∀ p ∈ l, (Lit.int .i64 p.1).wf = true) (hk : (Lit.int .i64 k).wf = true) : ∀ p ∈ ins k v l, (Lit.int .i64 p.1).wf = true := fun p hp => by
  rcases mem_ins hp with rfl | hp
  · exact hk
  · exact hl p hp
theorem ownsMap_len {w : World} {b n : Nat} {l : List (Int × Value)} (h : w.ownsMap Tryz.prog 3 RV b n (.map (encL l))) : w.ownsMap Tryz.prog 3 RV b l.length (.map (encL l)) := by
  obtain ⟨es, c, hb, F, hs, hD⟩ := h
  refine ⟨es, c, hb, F, ?_, hD⟩
  have : (encL l).length = es.size := by
    have := congrArg Maps.size hD
    simpa [Maps.size, length_sorted] using this
  simp [encL] at this
  omega
theorem MapV.put (h : MapV w b l) (ht : Tryz.prog.underlying t = some (.map 3 e)) (hn : l.length < maxLen) (hk : (Lit.int .i64 k).wf = true) (v : Value) :
    ∃ w', (Instr.mapUpdate t (.map (some b)) (.int .i64 k) v).run Tryz.prog w = .ok () w' ∧ MapV w' b (ins k v l) ∧ Turn w w' b := by
  obtain ⟨w', hrun, hown, hturn⟩ := h.own.store key_law ht hn (val := v) (d := .held v) (ps := []) (keyOf_int_mk Tryz.underlying3 hk) rfl
  rw [enc_put k v h.srt] at hown
  exact ⟨w', hrun, ⟨ownsMap_len hown, srt_ins h.srt, wf_ins h.wf hk⟩, turn_of hturn⟩
theorem MapV.drop (h : MapV w b l) (ht : Tryz.prog.underlying t = some (.map 3 e)) (hk : (Lit.int .i64 k).wf = true) (ty : TypeId) :
    ∃ w', (Builtin.delete_ #[t, 3] ty #[.map (some b), .int .i64 k]).run Tryz.prog w = .ok (.tuple #[]) w' ∧ MapV w' b (del k l) ∧ Turn w w' b := by
  obtain ⟨w', hrun, hown, hturn⟩ := h.own.drop key_law ht (keyOf_int_mk Tryz.underlying3 hk) ty
  rw [enc_del] at hown
  exact ⟨w', hrun, ⟨ownsMap_len hown, srt_del h.srt, fun p hp => h.wf p (List.mem_filter.1 hp).1⟩, turn_of hturn⟩
theorem MapV.made (w : World) : MapV (w.alloc (.map #[] 0)) w.heap.size [] := ⟨World.ownsMap_made _ _ _ _, by simp [Srt], by simp⟩
theorem MapV.turn {w w' : World} {b b' : Nat} {l : List (Int × Value)} (h : MapV w b l) (ht : Turn w w' b') (hne : b ≠ b') : MapV w' b l := h.congr (ht.block b hne)
end
end Go.Proofs.YtdoankamaobkoaaGreatDoor
