/- Plain words over this program's worlds: a frame over a set of blocks, and maps keyed by int whose values are told exactly · The disk and the pager as plain data, and what their memory is · The journal's numbers, and the disk's Len, may and Read: what each call comes to · The pager's methods: what each call comes to · pager.oldest: the page without pins that was used longest ago · pager.hold: a page is held, if there is room · What always holds of a pager, holds behind each of its methods · pager.Load, Store, Pin, Unpin. -/
import Derived.Test.YtmgcaohpbaiiaaaGreatDoorProg
import Derived.WalkKit
import Derived.WalkSpells
import Derived.WalkLawsBesides
import Derived.Maps.OwnOps
import Derived.Maps.OwnSet
import Derived.Maps.RangeWalk
import Derived.Maps.Ext
import Derived.Deep.QuietTactic
import Derived.BigQuiet
import Derived.Lib.Hide
namespace Go.Proofs.YtmgcaohpbaiiaaaGreatDoor
/-! Base -/
section
set_option linter.unusedSimpArgs false
set_option linter.unusedVariables false
open Go.RowKit Go.Maps

/-! ### lists of pairs, by rising keys -/
section
variable {α : Type}
def ins (k : Int) (v : α) : List (Int × α) → List (Int × α)
  | [] => [(k, v)]
  | p :: r => if k < p.1 then (k, v) :: p :: r else if p.1 = k then (k, v) :: r else p :: ins k v r
def del (k : Int) (l : List (Int × α)) : List (Int × α) := l.filter fun p => !decide (p.1 = k)
def get (k : Int) (l : List (Int × α)) : Option α := (l.find? fun p => decide (p.1 = k)).map (·.2)
def Srt (l : List (Int × α)) : Prop := l.Pairwise fun p q => p.1 < q.1

theorem srt_del {k : Int} {l : List (Int × α)} (h : Srt l) : Srt (del k l) := List.Pairwise.filter _ h
theorem mem_ins {k : Int} {v : α} {q : Int × α} : ∀ {l : List (Int × α)}, q ∈ ins k v l → q = (k, v) ∨ q ∈ l
  | [], h => by simp [ins] at h; exact .inl h
  | p :: r, h => by
    unfold ins at h
    split at h
    · simpa using h
    · split at h
      · simp at h ⊢; rcases h with h | h
        · exact .inl h
        · exact .inr (.inr h)
      · simp at h ⊢; rcases h with h | h
        · exact .inr (.inl h)
        · rcases mem_ins h with h | h
          · exact .inl h
          · exact .inr (.inr h)
theorem srt_ins {k : Int} {v : α} : ∀ {l : List (Int × α)}, Srt l → Srt (ins k v l)
  | [], _ => by simp [ins, Srt]
  | p :: r, h => by
    obtain ⟨h1, h2⟩ := List.pairwise_cons.1 h
    unfold ins
    split
    · rename_i hk
      refine List.pairwise_cons.2 ⟨fun q hq => ?_, h⟩
      rcases List.mem_cons.1 hq with rfl | hq
      · exact hk
      · exact Int.lt_trans hk (h1 q hq)
    · split
      · rename_i hk
        exact List.pairwise_cons.2 ⟨fun q hq => by have := h1 q hq; simpa [← hk] using this, h2⟩
      · rename_i hk hk'
        refine List.pairwise_cons.2 ⟨fun q hq => ?_, srt_ins h2⟩
        rcases mem_ins hq with rfl | hq
        · simp; omega
        · exact h1 q hq
theorem del_none {k : Int} {l : List (Int × α)} (h : ∀ p ∈ l, p.1 ≠ k) : del k l = l := by
  unfold del; exact List.filter_eq_self.2 fun p hp => by simpa using h p hp
theorem get_none {k : Int} {l : List (Int × α)} (h : get k l = none) : ∀ p ∈ l, p.1 ≠ k := by
  simpa [get] using h
theorem get_mem {k : Int} {v : α} {l : List (Int × α)} (h : get k l = some v) : (k, v) ∈ l := by
  unfold get at h
  cases hf : l.find? (fun p => decide (p.1 = k)) with
  | none => simp [hf] at h
  | some p =>
    simp [hf] at h
    have h1 := List.find?_some hf
    have h2 := List.mem_of_find?_eq_some hf
    simp at h1
    obtain ⟨a, b⟩ := p
    simp at h h1
    subst h h1
    exact h2
theorem mem_get {k : Int} {v : α} {l : List (Int × α)} (hs : Srt l) (h : (k, v) ∈ l) : get k l = some v := by
  induction l with
  | nil => simp at h
  | cons p r ih =>
    obtain ⟨h1, h2⟩ := List.pairwise_cons.1 hs
    unfold get
    rcases List.mem_cons.1 h with rfl | h'
    · simp
    · have hlt := h1 _ h'
      have hne : decide (p.1 = k) = false := by simp; simp at hlt; omega
      simp only [List.find?_cons, hne]
      exact ih h2 h'
theorem get_ins_same {k : Int} {v : α} : ∀ {l : List (Int × α)}, get k (ins k v l) = some v
  | [] => by simp [ins, get]
  | p :: r => by
    unfold ins
    split
    · simp [get]
    · split
      · simp [get]
      · rename_i hk
        have := get_ins_same (k := k) (v := v) (l := r)
        unfold get at this ⊢
        simp [List.find?_cons, hk, this]
theorem get_ins_other {k k' : Int} {v : α} (hne : k' ≠ k) : ∀ {l : List (Int × α)}, get k' (ins k v l) = get k' l
  | [] => by simp [ins, get, Ne.symm hne]
  | p :: r => by
    unfold ins
    split
    · simp [get, List.find?_cons, Ne.symm hne]
    · split
      · rename_i hk
        simp [get, List.find?_cons, Ne.symm hne, hk]
      · have := get_ins_other (v := v) hne (l := r)
        unfold get at this ⊢
        by_cases hp : p.1 = k'
        · simp [List.find?_cons, hp]
        · simp [List.find?_cons, hp, this]
theorem get_del_same {k : Int} {l : List (Int × α)} : get k (del k l) = none := by
  simp [get, del]
theorem get_del_other {k k' : Int} (hne : k' ≠ k) {l : List (Int × α)} : get k' (del k l) = get k' l := by
  unfold get del
  rw [List.find?_filter]
  congr 2
  funext p
  by_cases hp : p.1 = k'
  · simp [hp, hne]
  · simp [hp]
theorem ins_length_le {k : Int} {v : α} : ∀ {l : List (Int × α)}, (ins k v l).length ≤ l.length + 1
  | [] => by simp [ins]
  | p :: r => by
    unfold ins
    have := ins_length_le (k := k) (v := v) (l := r)
    split
    · simp
    · split <;> simp <;> omega
theorem ins_length {k : Int} {v : α} : ∀ {l : List (Int × α)}, get k l = none → (ins k v l).length = l.length + 1
  | [], _ => by simp [ins]
  | p :: r, h => by
    have hp := get_none h p (by simp)
    unfold ins
    split
    · simp
    · simp
      refine ins_length ?_
      unfold get at h ⊢
      simpa [List.find?_cons, hp] using h
theorem del_length_le {k : Int} {l : List (Int × α)} : (del k l).length ≤ l.length := List.length_filter_le _ _
theorem del_length {k : Int} : ∀ {l : List (Int × α)}, Srt l → get k l ≠ none → (del k l).length + 1 = l.length
  | [], _, h => by simp [get] at h
  | p :: r, hs, h => by
    obtain ⟨h1, h2⟩ := List.pairwise_cons.1 hs
    by_cases hp : p.1 = k
    · have : del k (p :: r) = r := by
        unfold del
        rw [List.filter_cons]
        simp [hp]
        intro a b hab
        have := h1 _ hab
        simp at this
        omega
      rw [this]; simp
    · have : del k (p :: r) = p :: del k r := by simp [del, List.filter_cons, hp]
      rw [this]
      simp
      refine del_length h2 ?_
      unfold get at h ⊢
      simpa [List.find?_cons, hp] using h
end

/-! ### a map keyed by int, its values told exactly -/
def RV (v : Value) : Option (DataW Value × List MemPlace) := some (.held v, [])
def encL (l : List (Int × Value)) : List (Lit × DataW Value) := l.map fun p => (.int .i64 p.1, .held p.2)
theorem enc_insert (k : Int) (v : Value) : ∀ {l : List (Int × Value)}, Srt l → DataW.insert (.int .i64 k, .held v) (encL (del k l)) = encL (ins k v l)
  | [], _ => rfl
  | p :: r, hs => by
    obtain ⟨h1, h2⟩ := List.pairwise_cons.1 hs
    have ih := enc_insert k v h2
    by_cases hp : p.1 = k
    · have hd : del k (p :: r) = r := by
        have := del_none (k := k) (l := r) (fun q hq => by have := h1 q hq; omega)
        unfold del at this ⊢
        rw [List.filter_cons]; simpa [hp] using this
      rw [hd]
      have hi : ins k v (p :: r) = (k, v) :: r := by unfold ins; simp [hp]
      rw [hi]
      cases r with
      | nil => rfl
      | cons q r' =>
        have := h1 q (by simp)
        simp [encL, DataW.insert, Lit.before]
        intro hh; omega
    · have hd : del k (p :: r) = p :: del k r := by simp [del, List.filter_cons, hp]
      rw [hd]
      by_cases hlt : k < p.1
      · have hi : ins k v (p :: r) = (k, v) :: p :: r := by unfold ins; simp [hlt]
        have hr : del k r = r := del_none fun q hq => by have := h1 q hq; omega
        rw [hi, hr]
        simp [encL, DataW.insert, Lit.before, hlt]
      · have hi : ins k v (p :: r) = p :: ins k v r := by simp only [ins, if_neg hlt, if_neg hp]
        rw [hi]
        have e : encL (p :: del k r) = (.int .i64 p.1, .held p.2) :: encL (del k r) := rfl
        rw [e]
        unfold DataW.insert
        simp only [Lit.before, decide_eq_true_eq, if_neg hlt]
        rw [ih]; rfl
theorem enc_filter (k : Int) (l : List (Int × Value)) : (encL l).filter (fun p => !p.1.sameKey (.int .i64 k)) = encL (del k l) := by
  unfold encL del
  rw [List.filter_map]
  simp [Function.comp_def, Lit.sameKey]
theorem enc_put (k : Int) (v : Value) {l : List (Int × Value)} (hs : Srt l) : (DataW.map (encL l)).put (.int .i64 k) (.held v) = .map (encL (ins k v l)) := by
  unfold DataW.put
  simp only [enc_filter, enc_insert k v hs]
theorem enc_del (k : Int) (l : List (Int × Value)) : (DataW.map (encL l)).del (.int .i64 k) = .map (encL (del k l)) := by
  unfold DataW.del
  simp only [enc_filter]
theorem enc_find (k : Int) (l : List (Int × Value)) : (encL l).find? (fun p => p.1.sameKey (.int .i64 k)) = (l.find? fun p => decide (p.1 = k)).map fun p => (.int .i64 p.1, .held p.2) := by
  unfold encL
  rw [List.find?_map]
  congr 1
  simp [Function.comp_def, Lit.sameKey]
theorem enc_has (k : Int) (l : List (Int × Value)) : Maps.has (DataW.map (encL l)) (.int .i64 k) = (get k l).isSome := by
  unfold Maps.has get
  induction l with
  | nil => rfl
  | cons p r ih =>
    by_cases hp : p.1 = k
    · simp [encL, hp, Lit.sameKey]
    · simp [encL, hp, Lit.sameKey]
      simpa [encL, Lit.sameKey] using ih
theorem enc_at (k : Int) (l : List (Int × Value)) (z : DataW Value) : (DataW.map (encL l)).atKey (.int .i64 k) z = match get k l with | some v => .held v | none => z := by
  unfold DataW.atKey get
  simp only [enc_find]
  cases (l.find? fun p => decide (p.1 = k)) <;> rfl

/-- Block b of w is a map from int that holds just the pairs of l. -/
structure MapV (w : World) (b : Nat) (l : List (Int × Value)) : Prop where
  own : w.ownsMap Tryz.prog 3 RV b l.length (.map (encL l))
  srt : Srt l
  wf : ∀ p ∈ l, (Lit.int .i64 p.1).wf = true

theorem key_law : Keyed Tryz.prog 3 := int_keyed Tryz.underlying3
theorem zero_str (w : World) : (zeroValue 9).run Tryz.prog w = .ok (.string ⟨#[]⟩) w := by kernel_rfl
theorem zero_page (w : World) : (zeroValue 170).run Tryz.prog w = .ok (.pointer none) w := by kernel_rfl

theorem MapV.lt {w : World} {b : Nat} {l : List (Int × Value)} (h : MapV w b l) : b < w.heap.size := h.own.lt
theorem MapV.obj {w : World} {b : Nat} {l : List (Int × Value)} (h : MapV w b l) : ∃ es c, w.heap[b]? = some (.map es c) := let ⟨es, c, hb, _⟩ := h.own; ⟨es, c, hb⟩
theorem MapV.congr {w w' : World} {b : Nat} {l : List (Int × Value)} (h : MapV w b l) (hb : w'.heap[b]? = w.heap[b]?) : MapV w' b l := by
  obtain ⟨⟨es, c, h1, h2⟩, hs, hw⟩ := h
  exact ⟨⟨es, c, hb.trans h1, h2⟩, hs, hw⟩

section
variable {w : World} {b : Nat} {l : List (Int × Value)} {t e : TypeId} {k : Int}
theorem MapV.look (h : MapV w b l) (ht : Tryz.prog.underlying t = some (.map 3 e)) {z : Value} (hz : (zeroValue e).run Tryz.prog w = .ok z w) (hk : (Lit.int .i64 k).wf = true) :
    (Instr.lookup t (.map (some b)) (.int .i64 k) false).run Tryz.prog w = .ok ((get k l).getD z) w := by
  obtain ⟨v, ps, hrun, hR⟩ := h.own.lookup key_law ht hz (zd := .held z) (zp := []) rfl (keyOf_int_mk Tryz.underlying3 hk)
  rw [hrun]
  simp only [RV, enc_at, Option.some.injEq, Prod.mk.injEq] at hR
  obtain ⟨hv, _⟩ := hR
  cases hg : get k l with
  | none => rw [hg] at hv; simp at hv; simp [hv]
  | some x => rw [hg] at hv; simp at hv; simp [hv]
theorem MapV.look_ok (h : MapV w b l) (ht : Tryz.prog.underlying t = some (.map 3 e)) {z : Value} (hz : (zeroValue e).run Tryz.prog w = .ok z w) (hk : (Lit.int .i64 k).wf = true) :
    (Instr.lookup t (.map (some b)) (.int .i64 k) true).run Tryz.prog w = .ok (.tuple #[(get k l).getD z, .bool (get k l).isSome]) w := by
  obtain ⟨v, ps, hrun, hR⟩ := h.own.look_ok key_law ht hz (zd := .held z) (zp := []) rfl (keyOf_int_mk Tryz.underlying3 hk)
  rw [hrun, enc_has]
  simp only [RV, enc_at, Option.some.injEq, Prod.mk.injEq] at hR
  obtain ⟨hv, _⟩ := hR
  cases hg : get k l with
  | none => rw [hg] at hv; simp at hv; simp [hv]
  | some x => rw [hg] at hv; simp at hv; simp [hv]
theorem MapV.len (h : MapV w b l) (ht : Tryz.prog.underlying t = some (.map 3 e)) (ty : TypeId) :
    (Builtin.len_ #[t] ty #[.map (some b)]).run Tryz.prog w = .ok (.int .i64 l.length) w := by
  rw [h.own.len ht]; simp [Maps.size, encL]
end

/-! ### a frame over a set of blocks -/
structure Upd (F : Nat → Prop) (w w' : World) : Prop where
  os : w'.os = w.os
  tape : w'.tape = w.tape
  output : w'.output = w.output
  size : w.heap.size ≤ w'.heap.size
  block : ∀ b, b < w.heap.size → ¬ F b → w'.heap[b]? = w.heap[b]?

theorem Upd.refl (F : Nat → Prop) (w : World) : Upd F w w := ⟨rfl, rfl, rfl, Nat.le_refl _, fun _ _ _ => rfl⟩
theorem Upd.mono {F G : Nat → Prop} {w w' : World} (h : Upd F w w') (hg : ∀ b, b < w.heap.size → F b → G b) : Upd G w w' :=
  ⟨h.os, h.tape, h.output, h.size, fun b hb hn => h.block b hb fun hf => hn (hg b hb hf)⟩
theorem Upd.then {F G : Nat → Prop} {a b c : World} (h : Upd F a b) (k : Upd G b c) (hg : ∀ x, x < a.heap.size → G x → F x) : Upd F a c :=
  ⟨k.os.trans h.os, k.tape.trans h.tape, k.output.trans h.output, Nat.le_trans h.size k.size, fun x hx hn =>
    (k.block x (Nat.lt_of_lt_of_le hx h.size) fun hG => hn (hg x hx hG)).trans (h.block x hx hn)⟩
theorem Upd.trans {F : Nat → Prop} {a b c : World} (h : Upd F a b) (k : Upd F b c) : Upd F a c := h.then k fun _ _ x => x
theorem Upd.drew {F : Nat → Prop} {a w : World} (h : Upd F a w) : Upd F a w.drew := ⟨h.os, h.tape, h.output, h.size, h.block⟩
theorem Upd.drewN {F : Nat → Prop} {a w : World} (h : Upd F a w) (n : Nat) : Upd F a (w.drewN n) := ⟨h.os, h.tape, h.output, h.size, h.block⟩
theorem Upd.alloc {F : Nat → Prop} {a w : World} (h : Upd F a w) (o : Obj) : Upd F a (w.alloc o) :=
  ⟨h.os, h.tape, h.output, by simp; have := h.size; omega, fun b hb hn => (Below.heap_alloc w o b (Nat.lt_of_lt_of_le hb h.size)).trans (h.block b hb hn)⟩
theorem Upd.setCell {F : Nat → Prop} {a w : World} (h : Upd F a w) (p : Addr) (hp : p.block < a.heap.size → F p.block) (u : Value) : Upd F a (w.setCell p u) :=
  ⟨h.os, h.tape, h.output, by simpa using h.size, fun b hb hn => (Below.heap_setCell w p u b (fun e => hn (e ▸ hp (e ▸ hb)))).trans (h.block b hb hn)⟩
theorem Upd.grown {F : Nat → Prop} {a w w' : World} {row : Option Nat} (h : Upd F a w) (hg : w.grownBy w' row) (hr : ∀ k, row = some k → k < a.heap.size → F k) : Upd F a w' :=
  ⟨hg.os.trans h.os, hg.tape.trans h.tape, hg.output.trans h.output, Nat.le_trans h.size hg.size, fun b hb hn =>
    (hg.block b (Nat.lt_of_lt_of_le hb h.size) (fun e => hn (hr b e.symm hb))).trans (h.block b hb hn)⟩
theorem Upd.below {F : Nat → Prop} {a b : World} {B : Nat} (h : Below B a b) (hB : ∀ x, x < a.heap.size → B ≤ x → F x) : Upd F a b :=
  ⟨h.os, h.tape, h.output, h.size, fun x hx hn => h.block x (Nat.lt_of_not_le fun hle => hn (hB x hx hle))⟩
theorem Upd.toBelow {F : Nat → Prop} {a b : World} {B : Nat} (h : Upd F a b) (hB : B ≤ a.heap.size) (hF : ∀ x, x < B → ¬ F x) : Below B a b :=
  ⟨h.os, h.tape, h.output, h.size, fun x hx => h.block x (Nat.lt_of_lt_of_le hx hB) (hF x hx)⟩
theorem Upd.cell {F : Nat → Prop} {w w' : World} (h : Upd F w w') {p : Addr} (hp : p.block < w.heap.size) (hn : ¬ F p.block) : w'.cell? p = w.cell? p := World.cell?_of_block (w := w) (h.block p.block hp hn)
theorem Upd.frozen {F : Nat → Prop} {w w' : World} (h : Upd F w w') {p : Addr} (hp : p.block < w.heap.size) (hn : ¬ F p.block) : w'.frozen? p = w.frozen? p := World.frozen?_of_block (w := w) (h.block p.block hp hn)

/-- F, and what was made between w and w'. -/
def ext (F : Nat → Prop) (w w' : World) : Nat → Prop := fun b => F b ∨ (w.heap.size ≤ b ∧ b < w'.heap.size)

/-- A map's block has turned, and nothing else. -/
structure Turn (w w' : World) (b : Nat) : Prop where
  os : w'.os = w.os
  tape : w'.tape = w.tape
  output : w'.output = w.output
  size : w'.heap.size = w.heap.size
  block : ∀ x, x ≠ b → w'.heap[x]? = w.heap[x]?
  cell : ∀ a, w'.cell? a = w.cell? a
  frozen : ∀ a, w'.frozen? a = w.frozen? a
theorem turn_of {w w' : World} {b : Nat} (h : w.mapTurned w' b) : Turn w w' b := by
  obtain ⟨es, clock, es', clock', hb, rfl⟩ := h
  have hs := MapKept.heap_set (o' := .map es' clock') hb
  refine ⟨rfl, rfl, rfl, by simp [ChangeMaps.setBlock], fun x hx => hs.2 x hx, fun a => ?_, fun a => ?_⟩
  · by_cases ha : a.block = b
    · simp only [World.cell?, ha, hb]
      rw [show (ChangeMaps.setBlock w b (.map es' clock')).heap[b]? = some (.map es' clock') from hs.1]
    · exact World.cell?_of_block (hs.2 _ ha)
  · by_cases ha : a.block = b
    · simp only [World.frozen?, ha, hb]
      rw [show (ChangeMaps.setBlock w b (.map es' clock')).heap[b]? = some (.map es' clock') from hs.1]
    · exact World.frozen?_of_block (hs.2 _ ha)
theorem Upd.turn {F : Nat → Prop} {a w w' : World} {b : Nat} (h : Upd F a w) (ht : Turn w w' b) (hb : b < a.heap.size → F b) : Upd F a w' :=
  ⟨ht.os.trans h.os, ht.tape.trans h.tape, ht.output.trans h.output, by rw [ht.size]; exact h.size, fun x hx hn =>
    (ht.block x (fun e => hn (e ▸ hb (e ▸ hx)))).trans (h.block x hx hn)⟩

section
variable {w : World} {b : Nat} {l : List (Int × Value)} {t e : TypeId} {k : Int}
theorem wf_ins {v : Value} (hl : ∀ p ∈ l, (Lit.int .i64 p.1).wf = true) (hk : (Lit.int .i64 k).wf = true) : ∀ p ∈ ins k v l, (Lit.int .i64 p.1).wf = true := fun p hp => by
  rcases mem_ins hp with rfl | hp
  · exact hk
  · exact hl p hp
theorem ownsMap_len {w : World} {b n : Nat} {l : List (Int × Value)} (h : w.ownsMap Tryz.prog 3 RV b n (.map (encL l))) : w.ownsMap Tryz.prog 3 RV b l.length (.map (encL l)) := by
  obtain ⟨es, c, hb, F, hs, hD⟩ := h
  refine ⟨es, c, hb, F, ?_, hD⟩
  have : (encL l).length = es.size := by
    have := congrArg Maps.size hD
    simpa [Maps.size, length_sorted] using this
  simp [encL] at this
  omega
theorem MapV.put (h : MapV w b l) (ht : Tryz.prog.underlying t = some (.map 3 e)) (hn : l.length < maxLen) (hk : (Lit.int .i64 k).wf = true) (v : Value) :
    ∃ w', (Instr.mapUpdate t (.map (some b)) (.int .i64 k) v).run Tryz.prog w = .ok () w' ∧ MapV w' b (ins k v l) ∧ Turn w w' b := by
  obtain ⟨w', hrun, hown, hturn⟩ := h.own.store key_law ht hn (val := v) (d := .held v) (ps := []) (keyOf_int_mk Tryz.underlying3 hk) rfl
  rw [enc_put k v h.srt] at hown
  exact ⟨w', hrun, ⟨ownsMap_len hown, srt_ins h.srt, wf_ins h.wf hk⟩, turn_of hturn⟩
theorem MapV.drop (h : MapV w b l) (ht : Tryz.prog.underlying t = some (.map 3 e)) (hk : (Lit.int .i64 k).wf = true) (ty : TypeId) :
    ∃ w', (Builtin.delete_ #[t, 3] ty #[.map (some b), .int .i64 k]).run Tryz.prog w = .ok (.tuple #[]) w' ∧ MapV w' b (del k l) ∧ Turn w w' b := by
  obtain ⟨w', hrun, hown, hturn⟩ := h.own.drop key_law ht (keyOf_int_mk Tryz.underlying3 hk) ty
  rw [enc_del] at hown
  exact ⟨w', hrun, ⟨ownsMap_len hown, srt_del h.srt, fun p hp => h.wf p (List.mem_filter.1 hp).1⟩, turn_of hturn⟩
theorem MapV.made (w : World) : MapV (w.alloc (.map #[] 0)) w.heap.size [] := ⟨World.ownsMap_made _ _ _ _, by simp [Srt], by simp⟩
theorem MapV.turn {w w' : World} {b b' : Nat} {l : List (Int × Value)} (h : MapV w b l) (ht : Turn w w' b') (hne : b ≠ b') : MapV w' b l := h.congr (ht.block b hne)
end
end
/-! Rep -/
section
set_option linter.unusedSimpArgs false
set_option linter.unusedVariables false
open Go.RowKit Go.Maps

/-! ### plain data -/
structure Dsk where
  blocks : List ByteArray
  log : List (Int × ByteArray)
  left : Int
  told : Bool
  down : Bool

structure Pg where
  data : ByteArray
  pins : Int
  used : Int

structure Pgr where
  disk : Dsk
  room : Int
  held : List (Int × Pg)
  changed : List (Int × ByteArray)
  clock : Int
  reads : Int

/-- journal.blocks -/
def jBlocks (m : Int) : Int := (m + 127) / 128
/-- journal.Pages, from a guess down -/
def jDown (n : Int) : Nat → Nat
  | 0 => 0
  | m + 1 => if 2 * ((m : Int) + 1) + 1 + jBlocks (m + 1) > n then jDown n m else m + 1
def jPages (n : Int) : Int := if n < 64 ∨ 2048 < n then 0 else jDown n ((n - 1) / 2).toNat
def jFirst (n : Int) : Int := if jPages n = 0 then 0 else 2 + jBlocks (jPages n) + jPages n
/-- may a page be asked for? -/
def isPage (n at_ : Int) : Bool := decide (at_ = 0) || (decide (jFirst n ≤ at_) && decide (at_ < jFirst n + jPages n - 1))

def Dsk.n (S : Dsk) : Int := S.blocks.length
def Dsk.may (S : Dsk) (i : Int) : Int := if S.down then 17 else if i < 0 ∨ S.n ≤ i then 1 else 0
def Dsk.read (S : Dsk) (i : Int) : ByteArray × Int := if S.may i = 0 then (S.blocks.getD i.toNat ⟨#[]⟩, 0) else (⟨#[]⟩, S.may i)

def older : Option (Int × Pg) → List (Int × Pg) → Option (Int × Pg)
  | b, [] => b
  | b, p :: r => older (if p.2.pins = 0 then (match b with | none => some p | some q => if p.2.used < q.2.used then some p else some q) else b) r
def oldest (l : List (Int × Pg)) : Option Int := (older none l).map (·.1)

def Pgr.may (S : Pgr) (i : Int) : Int := if isPage S.disk.n i then 0 else 1
def Pgr.tick (S : Pgr) : Pgr := { S with clock := S.clock + 1 }
/-- a held page is used -/
def Pgr.use (S : Pgr) (i : Int) (x : Pg) : Pgr := { S with clock := S.clock + 1, held := ins i { x with used := S.clock + 1 } S.held }
def Pgr.full (S : Pgr) : Bool := decide (S.room ≤ (S.held.length : Int))
def Pgr.hold (S : Pgr) (i : Int) (s : ByteArray) : Pgr :=
  if S.full then
    match oldest S.held with
    | none => S
    | some o => { S with clock := S.clock + 1, held := ins i ⟨s, 0, S.clock + 1⟩ (del o S.held) }
  else { S with clock := S.clock + 1, held := ins i ⟨s, 0, S.clock + 1⟩ S.held }
def Pgr.read (S : Pgr) (i : Int) : (ByteArray × Int) × Pgr :=
  (S.disk.read i, if (S.disk.read i).2 = 0 then { S with reads := S.reads + 1 } else S)
def Pgr.load (S : Pgr) (i : Int) : (ByteArray × Int) × Pgr :=
  if S.may i ≠ 0 then ((⟨#[]⟩, S.may i), S) else
  match get i S.changed with
  | some s => ((s, 0), S)
  | none => match get i S.held with
    | some x => ((x.data, 0), S.use i x)
    | none => if (S.disk.read i).2 ≠ 0 then ((⟨#[]⟩, (S.disk.read i).2), S)
      else (((S.disk.read i).1, 0), (S.read i).2.hold i (S.disk.read i).1)
def Pgr.store (S : Pgr) (i : Int) (s : ByteArray) : Int × Pgr :=
  if S.may i ≠ 0 then (S.may i, S) else
  if s.size ≠ 256 then (3, S) else
  match get i S.held with
  | some x => if 0 < x.pins then (10, S) else (0, { S with held := del i S.held, changed := ins i s S.changed })
  | none => (0, { S with held := del i S.held, changed := ins i s S.changed })
def Pgr.pin (S : Pgr) (i : Int) : Int × Pgr :=
  if S.may i ≠ 0 then (S.may i, S) else
  match get i S.changed with
  | some _ => (19, S)
  | none => match get i S.held with
    | some x => (0, S.use i { x with pins := x.pins + 1 })
    | none =>
      if S.full && (oldest S.held).isNone then (10, S)
      else if (S.disk.read i).2 ≠ 0 then ((S.disk.read i).2, S)
      else (0, (((S.read i).2.hold i (S.disk.read i).1)).use i ⟨(S.disk.read i).1, 1, 0⟩)
def Pgr.unpin (S : Pgr) (i : Int) : Int × Pgr :=
  match get i S.held with
  | none => (8, S)
  | some x => if x.pins = 0 then (8, S) else (0, { S with held := ins i { x with pins := x.pins - 1 } S.held })

/-- what always holds of a pager -/
structure Pgr.Ok (S : Pgr) : Prop where
  room : 1 ≤ S.room ∧ S.room ≤ 1024
  len : (S.held.length : Int) ≤ S.room
  srt : Srt S.held
  srtc : Srt S.changed
  held : ∀ q ∈ S.held, isPage S.disk.n q.1 = true ∧ 0 ≤ q.2.pins ∧ 0 ≤ q.2.used ∧ q.2.used ≤ S.clock ∧ q.2.data.size = 256
  changed : ∀ q ∈ S.changed, isPage S.disk.n q.1 = true ∧ q.2.size = 256
  apart : ∀ q ∈ S.held, get q.1 S.changed = none
  used : ∀ q ∈ S.held, ∀ r ∈ S.held, q.2.used = r.2.used → q.1 = r.1
  blocks : 64 ≤ S.disk.blocks.length ∧ S.disk.blocks.length ≤ 2048
  sizes : ∀ s ∈ S.disk.blocks, s.size = 256
  clock : 0 ≤ S.clock
  reads : 0 ≤ S.reads

/-! ### memory -/
def pageCells (l : List (Int × ByteArray)) : List Value := l.flatMap fun p => [.int .i64 p.1, .string p.2]

structure DiskAt (w : World) (d bb : Nat) (lg : Value) (S : Dsk) : Prop where
  d : w.heap[d]? = some (.cells #[.slice (some ⟨bb, 0, none⟩) S.blocks.length S.blocks.length, lg, .int .i64 S.left, .bool S.told, .bool S.down] 112 (0, 0))
  bb : w.heap[bb]? = some (.cells (S.blocks.map Value.string).toArray 9 (0, 0))
  lg : w.ownsRow 0 218 2 lg S.log.length (pageCells S.log)

structure PLoc where
  p : Nat
  d : Nat
  bb : Nat
  h : Nat
  c : Nat
  lg : Value
  blk : Int → Nat

def heldV (blk : Int → Nat) (l : List (Int × Pg)) : List (Int × Value) := l.map fun q => (q.1, .pointer (some ⟨blk q.1, 0, none⟩))
def changedV (l : List (Int × ByteArray)) : List (Int × Value) := l.map fun q => (q.1, .string q.2)

structure PagerAt (w : World) (L : PLoc) (S : Pgr) : Prop where
  p : w.heap[L.p]? = some (.cells #[.pointer (some ⟨L.d, 0, none⟩), .int .i64 S.room, .map (some L.h), .map (some L.c), .int .i64 S.clock, .int .i64 S.reads] 162 (0, 0))
  disk : DiskAt w L.d L.bb L.lg S.disk
  held : MapV w L.h (heldV L.blk S.held)
  changed : MapV w L.c (changedV S.changed)
  page : ∀ q ∈ S.held, w.heap[L.blk q.1]? = some (.cells #[.string q.2.data, .int .i64 q.2.pins, .int .i64 q.2.used] 173 (0, 0))
  hc : L.h ≠ L.c
  inj : ∀ q ∈ S.held, ∀ r ∈ S.held, L.blk q.1 = L.blk r.1 → q.1 = r.1

def PLoc.fp (L : PLoc) (S : Pgr) (b : Nat) : Prop := b = L.p ∨ b = L.d ∨ b = L.bb ∨ b = L.h ∨ b = L.c ∨ L.lg.ownBlock = some b ∨ ∃ q ∈ S.held, b = L.blk q.1

def PAt (w : World) (p d : Nat) (F : Nat → Prop) (S : Pgr) : Prop := ∃ L : PLoc, L.p = p ∧ L.d = d ∧ PagerAt w L S ∧ (∀ b, L.fp S b → F b) ∧ S.Ok

theorem cell_of {w : World} {b : Nat} {cs : Array Value} {T : TypeId} {f : Nat × Nat} (h : w.heap[b]? = some (.cells cs T f)) (i : Nat) : w.cell? ⟨b, i, none⟩ = cs[i]? := by
  simp [World.cell?, h]
theorem frozen_of {w : World} {b : Nat} {cs : Array Value} {T : TypeId} (h : w.heap[b]? = some (.cells cs T (0, 0))) (i : Nat) : w.frozen? ⟨b, i, none⟩ = false := by
  simp [World.frozen?, h]
theorem lt_of {w : World} {b : Nat} {o : Obj} (h : w.heap[b]? = some o) : b < w.heap.size := (Array.getElem?_eq_some_iff.1 h).1

/-! ### lists of pairs under a map of their second parts -/
section
variable {α β : Type}
def mapV (f : Int → α → β) (l : List (Int × α)) : List (Int × β) := l.map fun q => (q.1, f q.1 q.2)
theorem mapV_ins (f : Int → α → β) (k : Int) (v : α) : ∀ l : List (Int × α), mapV f (ins k v l) = ins k (f k v) (mapV f l)
  | [] => rfl
  | p :: r => by
    have ih := mapV_ins f k v r
    simp only [mapV, List.map_cons] at ih ⊢
    unfold ins
    simp only
    split
    · rfl
    · split
      · rfl
      · simp only [List.map_cons, ih]
theorem mapV_del (f : Int → α → β) (k : Int) (l : List (Int × α)) : mapV f (del k l) = del k (mapV f l) := by
  unfold mapV del; rw [List.filter_map]; rfl
theorem mapV_get (f : Int → α → β) (k : Int) (l : List (Int × α)) : get k (mapV f l) = (get k l).map (f k) := by
  unfold mapV get
  rw [List.find?_map]
  simp only [Function.comp_def]
  cases hf : l.find? (fun p => decide (p.1 = k)) with
  | none => rfl
  | some p => have := List.find?_some hf; simp at this; simp [this]
theorem mapV_length (f : Int → α → β) (l : List (Int × α)) : (mapV f l).length = l.length := by simp [mapV]
theorem ins_get {k : Int} {v : α} : ∀ {l : List (Int × α)}, Srt l → get k l = some v → ins k v l = l
  | [], _, h => by simp [get] at h
  | p :: r, hs, h => by
    obtain ⟨h1, h2⟩ := List.pairwise_cons.1 hs
    have hm := get_mem h
    unfold ins
    by_cases hp : p.1 = k
    · have : get k (p :: r) = some p.2 := by simp [get, hp]
      rw [h] at this; injection this with hv
      rw [if_neg (by omega), if_pos hp, hv, ← hp]
    · rcases List.mem_cons.1 hm with rfl | hm
      · exact absurd rfl hp
      · have hlt := h1 _ hm
        simp at hlt
        rw [if_neg (by omega), if_neg hp]
        congr 1
        refine ins_get h2 ?_
        unfold get at h ⊢
        simpa [List.find?_cons, hp] using h
end
theorem heldV_eq (blk : Int → Nat) (l : List (Int × Pg)) : heldV blk l = mapV (fun k _ => .pointer (some ⟨blk k, 0, none⟩)) l := rfl
theorem changedV_eq (l : List (Int × ByteArray)) : changedV l = mapV (fun _ s => Value.string s) l := rfl

/-! ### memory that is as it was -/
theorem heap_setCell_same {w : World} {b : Nat} {cs : Array Value} {T : TypeId} {f : Nat × Nat} (h : w.heap[b]? = some (.cells cs T f)) (i : Nat) (v : Value) :
    (w.setCell ⟨b, i, none⟩ v).heap[b]? = some (.cells (cs.setIfInBounds i v) T f) := by
  simp only [World.setCell, Array.getElem?_modify, h]
  simp
theorem DiskAt.keep {w w' : World} {d bb : Nat} {lg : Value} {S : Dsk} (h : DiskAt w d bb lg S)
    (hk : ∀ b cs T f, w.heap[b]? = some (.cells cs T f) → (T = 112 ∨ T = 9 ∨ T = 218) → (b = d ∨ b = bb ∨ lg.ownBlock = some b) → w'.heap[b]? = w.heap[b]?) : DiskAt w' d bb lg S := by
  refine ⟨(hk _ _ _ _ h.d (.inl rfl) (.inl rfl)).trans h.d, (hk _ _ _ _ h.bb (.inr (.inl rfl)) (.inr (.inl rfl))).trans h.bb, ?_⟩
  obtain ⟨hl, hr⟩ := h.lg
  refine ⟨hl, ?_⟩
  rcases hr with hr | ⟨g, cap, cur, rfl, hb, hg, rest⟩
  · exact .inl hr
  · exact .inr ⟨g, cap, cur, rfl, hb, (hk _ _ _ _ hg (.inr (.inr rfl)) (.inr (.inr rfl))).trans hg, rest⟩
theorem DiskAt.fp_lt {w : World} {d bb : Nat} {lg : Value} {S : Dsk} (h : DiskAt w d bb lg S) {b : Nat} (hb : b = d ∨ b = bb ∨ lg.ownBlock = some b) : b < w.heap.size := by
  rcases hb with rfl | rfl | hb
  · exact lt_of h.d
  · exact lt_of h.bb
  · obtain ⟨_, ⟨rfl, _⟩ | ⟨g, cap, cur, rfl, _, hg, _⟩⟩ := h.lg
    · simp [Value.ownBlock] at hb
    · simp [Value.ownBlock] at hb; subst hb; exact lt_of hg
theorem DiskAt.fp_cells {w : World} {d bb : Nat} {lg : Value} {S : Dsk} (h : DiskAt w d bb lg S) {b : Nat} (hb : b = d ∨ b = bb ∨ lg.ownBlock = some b) :
    ∃ cs T, w.heap[b]? = some (.cells cs T (0, 0)) ∧ (T = 112 ∨ T = 9 ∨ T = 218) := by
  rcases hb with rfl | rfl | hb
  · exact ⟨_, _, h.d, .inl rfl⟩
  · exact ⟨_, _, h.bb, .inr (.inl rfl)⟩
  · obtain ⟨_, ⟨rfl, _⟩ | ⟨g, cap, cur, rfl, _, hg, _⟩⟩ := h.lg
    · simp [Value.ownBlock] at hb
    · simp [Value.ownBlock] at hb; subst hb; exact ⟨_, _, hg, .inr (.inr rfl)⟩

theorem PagerAt.fp_lt {w : World} {L : PLoc} {S : Pgr} (h : PagerAt w L S) {b : Nat} (hb : L.fp S b) : b < w.heap.size := by
  rcases hb with rfl | rfl | rfl | rfl | rfl | hb | ⟨q, hq, rfl⟩
  · exact lt_of h.p
  · exact lt_of h.disk.d
  · exact lt_of h.disk.bb
  · exact h.held.lt
  · exact h.changed.lt
  · exact h.disk.fp_lt (.inr (.inr hb))
  · exact lt_of (h.page q hq)
/-- what is as it was at the pager's own blocks is the same pager -/
theorem PagerAt.keep {w w' : World} {L : PLoc} {S : Pgr} (h : PagerAt w L S) (hk : ∀ b, L.fp S b → w'.heap[b]? = w.heap[b]?) : PagerAt w' L S where
  p := (hk _ (.inl rfl)).trans h.p
  disk := h.disk.keep fun b _ _ _ _ _ hb => hk b (by rcases hb with rfl | rfl | hb; exact .inr (.inl rfl); exact .inr (.inr (.inl rfl)); exact .inr (.inr (.inr (.inr (.inr (.inl hb))))))
  held := h.held.congr (hk _ (.inr (.inr (.inr (.inl rfl)))))
  changed := h.changed.congr (hk _ (.inr (.inr (.inr (.inr (.inl rfl))))))
  page := fun q hq => (hk _ (.inr (.inr (.inr (.inr (.inr (.inr ⟨q, hq, rfl⟩))))))).trans (h.page q hq)
  hc := h.hc
  inj := h.inj
theorem PAt.upd {w w' : World} {p d : Nat} {F G : Nat → Prop} {S : Pgr} (h : PAt w p d F S) (hu : Upd G w w') (hd : ∀ b, F b → ¬ G b) : PAt w' p d F S := by
  obtain ⟨L, hp, hd', hA, hF, hok⟩ := h
  exact ⟨L, hp, hd', hA.keep fun b hb => hu.block b (hA.fp_lt hb) (hd b (hF b hb)), hF, hok⟩
theorem PAt.mono {w : World} {p d : Nat} {F G : Nat → Prop} {S : Pgr} (h : PAt w p d F S) (hg : ∀ b, F b → G b) : PAt w p d G S := by
  obtain ⟨L, hp, hd', hA, hF, hok⟩ := h
  exact ⟨L, hp, hd', hA, fun b hb => hg b (hF b hb), hok⟩

/-- the clock, the reads -/
theorem PagerAt.top {w w' : World} {L : PLoc} {S : Pgr} (h : PagerAt w L S) {c r : Int}
    (hw : w'.heap[L.p]? = some (.cells #[.pointer (some ⟨L.d, 0, none⟩), .int .i64 S.room, .map (some L.h), .map (some L.c), .int .i64 c, .int .i64 r] 162 (0, 0)))
    (ho : ∀ b, b ≠ L.p → w'.heap[b]? = w.heap[b]?) : PagerAt w' L { S with clock := c, reads := r } where
  p := hw
  disk := h.disk.keep fun b cs T f hb hT _ => ho b fun e => by rw [e, h.p] at hb; simp at hb; rcases hT with rfl | rfl | rfl <;> simp at hb
  held := h.held.congr (ho _ fun e => by obtain ⟨es, c, hb⟩ := h.held.obj; rw [e, h.p] at hb; simp at hb)
  changed := h.changed.congr (ho _ fun e => by obtain ⟨es, c, hb⟩ := h.changed.obj; rw [e, h.p] at hb; simp at hb)
  page := fun q hq => (ho _ fun e => by have := h.page q hq; rw [e, h.p] at this; simp at this).trans (h.page q hq)
  hc := h.hc
  inj := h.inj
/-- a held page has turned -/
theorem PagerAt.turnPage {w w' : World} {L : PLoc} {S : Pgr} (h : PagerAt w L S) (hs : Srt S.held) {i : Int} {x y : Pg} (hx : get i S.held = some x)
    (hw : w'.heap[L.blk i]? = some (.cells #[.string y.data, .int .i64 y.pins, .int .i64 y.used] 173 (0, 0)))
    (ho : ∀ b, b ≠ L.blk i → w'.heap[b]? = w.heap[b]?) : PagerAt w' L { S with held := ins i y S.held } := by
  have hpg := h.page _ (get_mem hx)
  simp only at hpg
  refine ⟨(ho _ fun e => ?_).trans h.p, h.disk.keep fun b cs T f hb hT _ => ho b fun e => ?_, ?_, h.changed.congr (ho _ fun e => ?_), fun q hq => ?_, h.hc, fun q hq r hr e => ?_⟩
  · have := h.p; rw [e, hpg] at this; simp at this
  · rw [e, hpg] at hb; simp at hb; rcases hT with rfl | rfl | rfl <;> simp at hb
  · have e1 : heldV L.blk (ins i y S.held) = heldV L.blk S.held := by
      rw [heldV_eq, heldV_eq, mapV_ins]
      exact ins_get (by have := h.held.srt; rwa [heldV_eq] at this) (by rw [mapV_get, hx]; rfl)
    show MapV w' L.h (heldV L.blk (ins i y S.held))
    rw [e1]
    exact h.held.congr (ho _ fun e => by obtain ⟨es, c, hb⟩ := h.held.obj; rw [e, hpg] at hb; simp at hb)
  · obtain ⟨es, c, hb⟩ := h.changed.obj; rw [e, hpg] at hb; simp at hb
  · have hq' : q ∈ ins i y S.held := hq
    by_cases hqi : q.1 = i
    · have := mem_get (srt_ins hs) (show (q.1, q.2) ∈ ins i y S.held from hq')
      rw [hqi, get_ins_same] at this
      injection this with this
      rw [hqi, ← this]; exact hw
    · have hm : q ∈ S.held := by
        rcases mem_ins hq' with rfl | hm
        · exact absurd rfl hqi
        · exact hm
      exact (ho _ fun e => hqi (h.inj q hm _ (get_mem hx) e)).trans (h.page q hm)
  · have key : ∀ q ∈ ins i y S.held, ∃ q' ∈ S.held, q'.1 = q.1 := fun q hq => by
      rcases mem_ins hq with rfl | hm
      · exact ⟨_, get_mem hx, rfl⟩
      · exact ⟨q, hm, rfl⟩
    obtain ⟨q', hq', e1⟩ := key q hq
    obtain ⟨r', hr', e2⟩ := key r hr
    rw [← e1, ← e2] at e ⊢
    exact h.inj q' hq' r' hr' e

theorem ne_map {w : World} {b c : Nat} {l : List (Int × Value)} {cs : Array Value} {T : TypeId} {f : Nat × Nat} (hb : w.heap[b]? = some (.cells cs T f)) (hm : MapV w c l) : b ≠ c := by
  rintro rfl
  obtain ⟨es, k, h⟩ := hm.obj
  rw [hb] at h; simp at h
/-- the held pages' map has turned: fewer pages are held -/
theorem PagerAt.turnHeld {w w' : World} {L : PLoc} {S : Pgr} (h : PagerAt w L S) {l' : List (Int × Pg)} (hM : MapV w' L.h (heldV L.blk l')) (ht : Turn w w' L.h) (hsub : ∀ q ∈ l', q ∈ S.held) :
    PagerAt w' L { S with held := l' } where
  p := (ht.block _ (ne_map h.p h.held)).trans h.p
  disk := h.disk.keep fun b _ _ _ hb _ _ => ht.block b (ne_map hb h.held)
  held := hM
  changed := h.changed.congr (ht.block _ h.hc.symm)
  page := fun q hq => (ht.block _ (ne_map (h.page q (hsub q hq)) h.held)).trans (h.page q (hsub q hq))
  hc := h.hc
  inj := fun q hq r hr => h.inj q (hsub q hq) r (hsub r hr)
/-- the changed pages' map has turned -/
theorem PagerAt.turnChanged {w w' : World} {L : PLoc} {S : Pgr} (h : PagerAt w L S) {l' : List (Int × ByteArray)} (hM : MapV w' L.c (changedV l')) (ht : Turn w w' L.c) :
    PagerAt w' L { S with changed := l' } where
  p := (ht.block _ (ne_map h.p h.changed)).trans h.p
  disk := h.disk.keep fun b _ _ _ hb _ _ => ht.block b (ne_map hb h.changed)
  held := h.held.congr (ht.block _ h.hc)
  changed := hM
  page := fun q hq => (ht.block _ (ne_map (h.page q hq) h.changed)).trans (h.page q hq)
  hc := h.hc
  inj := h.inj
theorem heap_alloc_new' (w : World) (o : Obj) : (w.alloc o).heap[w.heap.size]? = some o := (MapKept.heap_alloc w o).1
/-- a page is held that was not -/
theorem PagerAt.newPage {w w' : World} {L : PLoc} {S : Pgr} (h : PagerAt w L S) {i : Int} {s : ByteArray} (hi : get i S.held = none) {cs : Array Value}
    (hcs : cs = #[.string s, .int .i64 0, .int .i64 0])
    (ht : Turn (w.alloc (.cells cs 173 (0, 0))) w' L.h) (hM : MapV w' L.h (ins i (.pointer (some ⟨w.heap.size, 0, none⟩)) (heldV L.blk S.held))) :
    PagerAt w' { L with blk := fun k => if k = i then w.heap.size else L.blk k } { S with held := ins i ⟨s, 0, 0⟩ S.held } := by
  have hk : ∀ b, b < w.heap.size → b ≠ L.h → w'.heap[b]? = w.heap[b]? := fun b hb hn => (ht.block b hn).trans (Below.heap_alloc w _ b hb)
  have hin : ∀ q ∈ S.held, q.1 ≠ i := fun q hq => get_none hi q hq
  have hmem : ∀ q ∈ ins i ⟨s, 0, 0⟩ S.held, q = (i, ⟨s, 0, 0⟩) ∨ (q ∈ S.held ∧ q.1 ≠ i) := fun q hq => by
    rcases mem_ins hq with h | h
    · exact .inl h
    · exact .inr ⟨h, hin q h⟩
  refine ⟨(hk _ (lt_of h.p) (ne_map h.p h.held)).trans h.p, h.disk.keep fun b _ _ _ hb _ _ => hk b (lt_of hb) (ne_map hb h.held), ?_, h.changed.congr (hk _ h.changed.lt h.hc.symm), fun q hq => ?_, h.hc, fun q hq r hr e => ?_⟩
  · show MapV w' L.h (heldV (fun k => if k = i then w.heap.size else L.blk k) (ins i ⟨s, 0, 0⟩ S.held))
    have e1 : heldV (fun k => if k = i then w.heap.size else L.blk k) (ins i ⟨s, 0, 0⟩ S.held) = ins i (.pointer (some ⟨w.heap.size, 0, none⟩)) (heldV L.blk S.held) := by
      rw [heldV_eq, mapV_ins]
      simp only [if_true]
      congr 1
      unfold heldV mapV
      exact List.map_congr_left fun q hq => by simp [hin q hq]
    rw [e1]; exact hM
  · rcases hmem q hq with rfl | ⟨hm, hne⟩
    · simp only [if_true]
      rw [ht.block _ (fun e => by have := h.held.lt; omega), heap_alloc_new', hcs]
    · have := h.page q hm
      simp only [if_neg hne]
      exact (hk _ (lt_of this) (ne_map this h.held)).trans this
  · rcases hmem q hq with rfl | ⟨hm, hne⟩
    · rcases hmem r hr with rfl | ⟨hm', hne'⟩
      · rfl
      · simp only [if_true, if_neg hne'] at e
        have := lt_of (h.page r hm'); omega
    · rcases hmem r hr with rfl | ⟨hm', hne'⟩
      · simp only [if_true, if_neg hne] at e
        have := lt_of (h.page q hm); omega
      · simp only [if_neg hne, if_neg hne'] at e
        exact h.inj q hm r hm' e
theorem ins_ins {α : Type} (k : Int) (u v : α) : ∀ l : List (Int × α), ins k u (ins k v l) = ins k u l
  | [] => by simp [ins]
  | p :: r => by
    by_cases h1 : k < p.1
    · simp [ins, h1]
    · by_cases h2 : p.1 = k
      · simp [ins, h1, h2]
      · simp [ins, h1, h2, ins_ins k u v r]
end
/-! Disk -/
section
set_option linter.unusedSimpArgs false
set_option linter.unusedVariables false
open Go.RowKit Go.Maps

/-! ### the disk -/
theorem len_any {w : World} {d bb : Nat} {lg : Value} {S : Dsk} (h : DiskAt w d bb lg S) :
    Calls Tryz.prog 65 #[.pointer (some ⟨d, 0, none⟩)] w fun e w' => e = .returned (.int .i64 S.blocks.length) ∧ w = w' := by
  have c0 := cell_of h.d 0
  simp at c0
  clear h
  go_enter Tryz.func65, Tryz.ntmps65
  go_wp2
  go_ret
  exact ⟨rfl, rfl⟩

set_option maxHeartbeats 400000 in
theorem may_any {w : World} {d bb : Nat} {lg : Value} {S : Dsk} (h : DiskAt w d bb lg S) (i : Int) :
    Calls Tryz.prog 148 #[.pointer (some ⟨d, 0, none⟩), .int .i64 i] w fun e w' => e = .returned (.int .i64 (S.may i)) ∧ w = w' := by
  have c0 := cell_of h.d 0
  have c4 := cell_of h.d 4
  simp at c0 c4
  clear h
  unfold Dsk.may Dsk.n
  generalize S.blocks.length = n at *
  cases hd : S.down
  · rw [hd] at c4; clear hd
    by_cases h0 : i < 0
    · rw [if_neg (by simp), if_pos (by omega)]
      go_enter Tryz.func148, Tryz.ntmps148
      go_wp2
      go_ret
      exact ⟨rfl, rfl⟩
    · by_cases h1 : (n : Int) ≤ i
      · rw [if_neg (by simp), if_pos (by omega)]
        go_enter Tryz.func148, Tryz.ntmps148
        go_wp2
        go_ret
        exact ⟨rfl, rfl⟩
      · rw [if_neg (by simp), if_neg (by omega)]
        have h0' : 0 ≤ i := by omega
        have h1' : i < (n : Int) := by omega
        clear h0 h1
        go_enter Tryz.func148, Tryz.ntmps148
        go_wp2
        go_ret
        exact ⟨rfl, rfl⟩
  · rw [hd] at c4; clear hd
    rw [if_pos rfl]
    go_enter Tryz.func148, Tryz.ntmps148
    go_wp2
    go_ret
    exact ⟨rfl, rfl⟩

set_option maxHeartbeats 400000 in
theorem read_any {w : World} {d bb : Nat} {lg : Value} {S : Dsk} (h : DiskAt w d bb lg S) (i : Int) :
    Calls Tryz.prog 102 #[.pointer (some ⟨d, 0, none⟩), .int .i64 i] w fun e w' => e = .returned (.tuple #[.string (S.read i).1, .int .i64 (S.read i).2]) ∧ w = w' := by
  have hM := may_any h i
  have c0 := cell_of h.d 0
  have hb := fun k => cell_of h.bb k
  simp at c0 hb
  clear h
  by_cases h0 : S.may i = 0
  · have hr : S.read i = (S.blocks.getD i.toNat ⟨#[]⟩, 0) := by unfold Dsk.read; rw [if_pos h0]
    have hlt : 0 ≤ i ∧ i < S.blocks.length := by
      unfold Dsk.may Dsk.n at h0
      split at h0
      · simp at h0
      · split at h0
        · simp at h0
        · omega
    rw [hr]
    rw [h0] at hM
    obtain ⟨k, rfl⟩ := Int.eq_ofNat_of_zero_le hlt.1
    have hk : k < S.blocks.length := by omega
    have hc : w.cell? ⟨bb, k, none⟩ = some (.string (S.blocks.getD k ⟨#[]⟩)) := by
      rw [hb k]; simp [List.getD, List.getElem?_eq_getElem hk]
    clear hb h0 hr hlt
    rw [Int.toNat_natCast]
    generalize S.blocks.getD k ⟨#[]⟩ = s at *
    generalize S.blocks.length = n at *
    go_enter Tryz.func102, Tryz.ntmps102
    go_wp2_with (go_at_call 148; refine hM.mono ?_; rintro e w' ⟨rfl, rfl⟩)
    go_ret2
    exact ⟨rfl, rfl⟩
  · have hr : S.read i = (⟨#[]⟩, S.may i) := by unfold Dsk.read; rw [if_neg h0]
    rw [hr]
    have hb' : (S.may i != 0) = true := by simpa using h0
    clear hr h0 hb c0
    generalize S.may i = m at *
    go_enter Tryz.func102, Tryz.ntmps102
    go_wp2_with (go_at_call 148; refine hM.mono ?_; rintro e w' ⟨rfl, rfl⟩)
    go_ret2
    exact ⟨rfl, rfl⟩

/-! ### the journal's numbers -/
theorem blocks_any (m : Int) (w : World) (h0 : 0 ≤ m) (h1 : m ≤ 4096) :
    Calls Tryz.prog 142 #[.int .i64 m] w fun e w' => e = .returned (.int .i64 (jBlocks m)) ∧ w = w' := by
  unfold jBlocks
  go_enter Tryz.func142, Tryz.ntmps142
  go_wp2
  go_ret
  refine ⟨?_, rfl⟩
  simp
  omega

theorem jBlocks_le {m : Int} (h0 : 0 ≤ m) : 0 ≤ jBlocks m ∧ jBlocks m ≤ m + 127 := by unfold jBlocks; omega
theorem jDown_more {n : Int} {k : Nat} (h0 : 0 < k) (h : 2 * (k : Int) + 1 + jBlocks k > n) : jDown n k = jDown n (k - 1) := by
  cases k with
  | zero => omega
  | succ m => simp only [jDown]; rw [if_pos (by simpa using h)]; rfl
theorem jDown_stop {n : Int} {k : Nat} (hn : 1 ≤ n) (h : ¬ 2 * (k : Int) + 1 + jBlocks k > n) : jDown n k = k := by
  cases k with
  | zero => rfl
  | succ m => simp only [jDown]; rw [if_neg (by simpa using h)]
theorem jDown_le (n : Int) : ∀ k, jDown n k ≤ k
  | 0 => Nat.le_refl _
  | m + 1 => by simp only [jDown]; split; exact Nat.le_succ_of_le (jDown_le n m); exact Nat.le_refl _
theorem jPages_bd (n : Int) : 0 ≤ jPages n ∧ jPages n ≤ 1024 := by
  unfold jPages
  split
  · simp
  · have := jDown_le n ((n - 1) / 2).toNat; omega

set_option maxHeartbeats 400000 in
theorem pages_any (n : Int) (w : World) :
    Calls Tryz.prog 95 #[.int .i64 n] w fun e w' => e = .returned (.int .i64 (jPages n)) ∧ w = w' := by
  by_cases h : n < 64
  · rw [show jPages n = 0 from if_pos (.inl h)]
    go_enter Tryz.func95, Tryz.ntmps95
    go_wp2
    go_ret
    exact ⟨rfl, rfl⟩
  · by_cases h' : 2048 < n
    · rw [show jPages n = 0 from if_pos (.inr h')]
      go_enter Tryz.func95, Tryz.ntmps95
      go_wp2
      go_ret
      exact ⟨rfl, rfl⟩
    · have h0 : 64 ≤ n := by omega
      have h1 : n ≤ 2048 := by omega
      clear h h'
      have HR : Hid (jPages n = jDown n ((n - 1) / 2).toNat) := by show _ = _; unfold jPages; rw [if_neg (by omega)]
      rw [HR.out]
      obtain ⟨N, hN⟩ : ∃ N, N = jDown n ((n - 1) / 2).toNat := ⟨_, rfl⟩
      rw [← hN]
      have HN : Hid (jDown n ((n - 1) / 2).toNat = N) := hN.symm
      clear hN HR
      go_enter Tryz.func95, Tryz.ntmps95
      go_wp2
      go_loop [3] (fun m => ∃ k : Nat, (k : Int) ≤ (n - 1) / 2 ∧ Hid (jDown n k = N) ∧ m = .int .i64 k) (fun m => (intOf m).toNat)
      case atStart => exact ⟨((n - 1) / 2).toNat, by omega, HN, by rw [Int.toNat_of_nonneg (by omega)]⟩
      case round =>
        obtain ⟨k, hk, HK, rfl⟩ := hrel
        have hb := jBlocks_le (m := (k : Int)) (by omega)
        by_cases hc : 2 * (k : Int) + 1 + jBlocks k > n
        · have hk0 : 0 < k := by
            have : jBlocks 0 = 0 := by decide
            rcases Nat.eq_zero_or_pos k with rfl | h
            · simp [this] at hc; omega
            · exact h
          have HS : Hid (jDown n (k - 1 : Nat) = N) := by show _ = _; rw [← jDown_more hk0 hc]; exact HK.out
          clear HK
          go_wp2_with (go_at_call 142; refine (blocks_any _ _ (by omega) (by omega)).mono ?_; rintro e w' ⟨rfl, rfl⟩)
          go_round
          case rel => exact ⟨k - 1, by omega, HS, by rw [Int.ofNat_sub hk0]; rfl⟩
          case measure => simp [intOf]; omega
        · have hs := jDown_stop (n := n) (k := k) (by omega) hc
          have HE : Hid (k = N) := by have := HK.out; rw [hs] at this; exact this
          clear HK hs
          go_wp2_with (go_at_call 142; refine (blocks_any _ _ (by omega) (by omega)).mono ?_; rintro e w' ⟨rfl, rfl⟩)
          go_ret
          exact ⟨by rw [HE.out]; rfl, rfl⟩

theorem copies_any (n : Int) (w : World) :
    Calls Tryz.prog 141 #[.int .i64 n] w fun e w' => e = .returned (.int .i64 (2 + jBlocks (jPages n))) ∧ w = w' := by
  have hb := jPages_bd n
  have hB := jBlocks_le hb.1
  go_enter Tryz.func141, Tryz.ntmps141
  go_wp2_with (first
    | (go_at_call 95; refine (pages_any _ _).mono ?_; rintro e w' ⟨rfl, rfl⟩)
    | (go_at_call 142; refine (blocks_any _ _ (by omega) (by omega)).mono ?_; rintro e w' ⟨rfl, rfl⟩))
  go_ret
  exact ⟨rfl, rfl⟩

theorem first_any (n : Int) (w : World) :
    Calls Tryz.prog 94 #[.int .i64 n] w fun e w' => e = .returned (.int .i64 (jFirst n)) ∧ w = w' := by
  have hb := jPages_bd n
  have hB := jBlocks_le hb.1
  by_cases h : jPages n = 0
  · rw [show jFirst n = 0 from if_pos h]
    have HP : (jPages n == 0) = true := by simpa using h
    clear h
    go_enter Tryz.func94, Tryz.ntmps94
    go_wp2_with (first
      | (go_at_call 95; refine (pages_any _ _).mono ?_; rintro e w' ⟨rfl, rfl⟩)
      | (go_at_call 141; refine (copies_any _ _).mono ?_; rintro e w' ⟨rfl, rfl⟩))
    go_ret
    exact ⟨rfl, rfl⟩
  · rw [show jFirst n = 2 + jBlocks (jPages n) + jPages n from if_neg h]
    have HP : (jPages n == 0) = false := by simpa using h
    clear h
    go_enter Tryz.func94, Tryz.ntmps94
    go_wp2_with (first
      | (go_at_call 95; refine (pages_any _ _).mono ?_; rintro e w' ⟨rfl, rfl⟩)
      | (go_at_call 141; refine (copies_any _ _).mono ?_; rintro e w' ⟨rfl, rfl⟩))
    go_ret
    exact ⟨rfl, rfl⟩
theorem jFirst_bd (n : Int) : 0 ≤ jFirst n ∧ jFirst n ≤ 4096 := by
  have hb := jPages_bd n
  have hB := jBlocks_le hb.1
  unfold jFirst
  split <;> omega
end
/-! Pager -/
section
set_option linter.unusedSimpArgs false
set_option linter.unusedVariables false
open Go.RowKit Go.Maps

set_option maxHeartbeats 400000 in
theorem pmay_any {w : World} {L : PLoc} {S : Pgr} (h : PagerAt w L S) (i : Int) :
    Calls Tryz.prog 106 #[.pointer (some ⟨L.p, 0, none⟩), .int .i64 i] w fun e w' => e = .returned (.int .i64 (S.may i)) ∧ w = w' := by
  have hL := len_any h.disk
  have c0 := cell_of h.p 0
  simp at c0
  clear h
  unfold Pgr.may isPage Dsk.n
  generalize S.disk.blocks.length = n at *
  have hF := jFirst_bd n
  have hP := jPages_bd n
  by_cases h0 : i = 0
  · subst h0
    rw [if_pos (by simp)]
    go_enter Tryz.func106, Tryz.ntmps106
    go_wp2_with (first
      | (go_at_call 65; refine hL.mono ?_; rintro e w' ⟨rfl, rfl⟩)
      | (go_at_call 94; refine (first_any _ _).mono ?_; rintro e w' ⟨rfl, rfl⟩)
      | (go_at_call 95; refine (pages_any _ _).mono ?_; rintro e w' ⟨rfl, rfl⟩))
    go_ret
    exact ⟨rfl, rfl⟩
  · have hi : (i != 0) = true := by simpa using h0
    by_cases h1 : i < jFirst n
    · rw [if_neg (by simp [h0]; omega)]
      clear h0
      go_enter Tryz.func106, Tryz.ntmps106
      go_wp2_with (first
        | (go_at_call 65; refine hL.mono ?_; rintro e w' ⟨rfl, rfl⟩)
        | (go_at_call 94; refine (first_any _ _).mono ?_; rintro e w' ⟨rfl, rfl⟩)
        | (go_at_call 95; refine (pages_any _ _).mono ?_; rintro e w' ⟨rfl, rfl⟩))
      go_ret
      exact ⟨rfl, rfl⟩
    · have h1' : jFirst n ≤ i := by omega
      by_cases h2 : i < jFirst n + jPages n - 1
      · rw [if_pos (by simp [h0]; omega)]
        clear h0 h1
        go_enter Tryz.func106, Tryz.ntmps106
        go_wp2_with (first
          | (go_at_call 65; refine hL.mono ?_; rintro e w' ⟨rfl, rfl⟩)
          | (go_at_call 94; refine (first_any _ _).mono ?_; rintro e w' ⟨rfl, rfl⟩)
          | (go_at_call 95; refine (pages_any _ _).mono ?_; rintro e w' ⟨rfl, rfl⟩))
        go_ret
        exact ⟨rfl, rfl⟩
      · rw [if_neg (by simp [h0]; omega)]
        have h2' : jFirst n + jPages n - 1 ≤ i := by omega
        clear h0 h1 h2
        go_enter Tryz.func106, Tryz.ntmps106
        go_wp2_with (first
          | (go_at_call 65; refine hL.mono ?_; rintro e w' ⟨rfl, rfl⟩)
          | (go_at_call 94; refine (first_any _ _).mono ?_; rintro e w' ⟨rfl, rfl⟩)
          | (go_at_call 95; refine (pages_any _ _).mono ?_; rintro e w' ⟨rfl, rfl⟩))
        go_ret
        exact ⟨rfl, rfl⟩

/-! 'use': the clock goes on, and is written into a page. -/
set_option maxHeartbeats 400000 in
theorem use_any {w : World} {L : PLoc} {S : Pgr} (h : PagerAt w L S) (b : Nat) (v0 v1 v2 : Value) (hb : w.heap[b]? = some (.cells #[v0, v1, v2] 173 (0, 0)))
    (hc : 0 ≤ S.clock ∧ S.clock < 4611686018427387904) :
    Calls Tryz.prog 107 #[.pointer (some ⟨L.p, 0, none⟩), .pointer (some ⟨b, 0, none⟩)] w fun e w' => e = .returned (.tuple #[]) ∧
      (w.setCell ⟨L.p, 4, none⟩ (.int .i64 (S.clock + 1))).setCell ⟨b, 2, none⟩ (.int .i64 (S.clock + 1)) = w' := by
  have c4 := cell_of h.p 4
  have f4 := frozen_of h.p 4
  have b2 := cell_of hb 2
  have g2 := frozen_of hb 2
  have hne : L.p ≠ b := by
    intro e; have := h.p; rw [e, hb] at this; simp at this
  simp at c4 b2
  clear h hb
  generalize S.clock = c at *
  have hne' : ¬ b = L.p := fun e => hne e.symm
  obtain ⟨hc0, hc1⟩ := hc
  go_enter Tryz.func107, Tryz.ntmps107
  go_wp2
  go_end0
  exact ⟨rfl, rfl⟩

theorem use_at {w : World} {L : PLoc} {S : Pgr} (h : PagerAt w L S) (hs : Srt S.held) {i : Int} {x : Pg} (hx : get i S.held = some x)
    (hc : 0 ≤ S.clock ∧ S.clock < 4611686018427387904) :
    Calls Tryz.prog 107 #[.pointer (some ⟨L.p, 0, none⟩), .pointer (some ⟨L.blk i, 0, none⟩)] w fun e w' => e = .returned (.tuple #[]) ∧
      PagerAt w' L (S.use i x) ∧ Upd (L.fp S) w w' := by
  have hpg := h.page _ (get_mem hx)
  simp only at hpg
  refine (use_any h _ _ _ _ hpg hc).mono ?_
  rintro e w' ⟨rfl, rfl⟩
  refine ⟨rfl, ?_, ((Upd.refl _ w).setCell _ (fun _ => .inl rfl) _).setCell _ (fun _ => .inr (.inr (.inr (.inr (.inr (.inr ⟨_, get_mem hx, rfl⟩)))))) _⟩
  have h1 := h.top (c := S.clock + 1) (r := S.reads) (w' := w.setCell ⟨L.p, 4, none⟩ (.int .i64 (S.clock + 1)))
    (by rw [heap_setCell_same h.p]; simp) (fun b hb => Below.heap_setCell _ _ _ _ hb)
  have hpg1 := h1.page _ (get_mem hx)
  exact h1.turnPage hs (i := i) (x := x) (y := { x with used := S.clock + 1 }) hx (by rw [heap_setCell_same hpg1]; simp) (fun b hb => Below.heap_setCell _ _ _ _ hb)

set_option maxHeartbeats 400000 in
theorem pread_at {w : World} {L : PLoc} {S : Pgr} (h : PagerAt w L S) (i : Int) (hr : 0 ≤ S.reads ∧ S.reads < 4611686018427387904) :
    Calls Tryz.prog 108 #[.pointer (some ⟨L.p, 0, none⟩), .int .i64 i] w fun e w' => e = .returned (.tuple #[.string (S.disk.read i).1, .int .i64 (S.disk.read i).2]) ∧
      PagerAt w' L (S.read i).2 ∧ Upd (L.fp S) w w' := by
  have hR := read_any h.disk i
  have c0 := cell_of h.p 0
  have c5 := cell_of h.p 5
  have f5 := frozen_of h.p 5
  simp at c0 c5
  by_cases hz : (S.disk.read i).2 = 0
  · have hS : (S.read i).2 = { S with reads := S.reads + 1 } := by simp [Pgr.read, hz]
    rw [hS, hz]
    rw [hz] at hR
    have h1 := h.top (c := S.clock) (r := S.reads + 1) (w' := w.setCell ⟨L.p, 5, none⟩ (.int .i64 (S.reads + 1)))
      (by rw [heap_setCell_same h.p]; simp) (fun b hb => Below.heap_setCell _ _ _ _ hb)
    have hU : Upd (L.fp S) w (w.setCell ⟨L.p, 5, none⟩ (.int .i64 (S.reads + 1))) := (Upd.refl _ w).setCell _ (fun _ => .inl rfl) _
    clear h hS hz
    generalize (S.disk.read i).1 = s at *
    have H1 := Lib.hid h1
    have HU := Lib.hid hU
    clear h1 hU
    obtain ⟨hr0, hr1⟩ := hr
    go_enter Tryz.func108, Tryz.ntmps108
    go_wp2_with (go_at_call 102; refine hR.mono ?_; rintro e w' ⟨rfl, rfl⟩)
    go_ret2
    exact ⟨rfl, H1.out, HU.out⟩
  · have hS : (S.read i).2 = S := by simp [Pgr.read, hz]
    rw [hS]
    have hz' : ((S.disk.read i).2 == 0) = false := by simpa using hz
    have H1 := Lib.hid h
    have HU := Lib.hid (Upd.refl (L.fp S) w)
    clear h hS hz
    generalize (S.disk.read i).1 = s at *
    generalize (S.disk.read i).2 = e at *
    go_enter Tryz.func108, Tryz.ntmps108
    go_wp2_with (go_at_call 102; refine hR.mono ?_; rintro e w' ⟨rfl, rfl⟩)
    go_ret2
    exact ⟨rfl, H1.out, HU.out⟩

end
/-! Old -/
section
set_option linter.unusedSimpArgs false
set_option linter.unusedVariables false
open Go.RowKit Go.Maps

/-- among the pages of which 'seen' holds, b is the one without pins that was used longest ago; -1: there is none -/
def Best (l : List (Int × Pg)) (seen : Int → Prop) (b : Int) : Prop :=
  (b = -1 ∧ ∀ q ∈ l, seen q.1 → q.2.pins ≠ 0) ∨ (∃ q ∈ l, b = q.1 ∧ seen q.1 ∧ q.2.pins = 0 ∧ ∀ r ∈ l, seen r.1 → r.2.pins = 0 → q.2.used ≤ r.2.used)

theorem older_spec : ∀ (l : List (Int × Pg)) (b : Option (Int × Pg)), (∀ q, b = some q → q.2.pins = 0) →
    (older b l = none ∧ b = none ∧ ∀ q ∈ l, q.2.pins ≠ 0) ∨ (∃ q, older b l = some q ∧ (b = some q ∨ q ∈ l) ∧ q.2.pins = 0 ∧ (∀ p, b = some p → q.2.used ≤ p.2.used) ∧ ∀ r ∈ l, r.2.pins = 0 → q.2.used ≤ r.2.used)
  | [], none, _ => .inl ⟨rfl, rfl, by simp⟩
  | [], some p, h => .inr ⟨p, rfl, .inl rfl, h p rfl, fun q e => by injection e with e; rw [e]; exact Int.le_refl _, by simp⟩
  | p :: r, b, h => by
    by_cases hp : p.2.pins = 0
    · cases b with
      | none =>
        have e : older none (p :: r) = older (some p) r := by simp [older, hp]
        rw [e]
        rcases older_spec r (some p) (fun q e => by injection e with e; rw [← e]; exact hp) with ⟨_, h2, _⟩ | ⟨q, h1, h2, h3, h4, h5⟩
        · simp at h2
        · refine .inr ⟨q, h1, .inr ?_, h3, by simp, ?_⟩
          · rcases h2 with h2 | h2
            · injection h2 with h2; simp [h2]
            · simp [h2]
          · intro s hs hs0
            rcases List.mem_cons.1 hs with rfl | hs
            · exact h4 _ rfl
            · exact h5 s hs hs0
      | some b0 =>
        by_cases hlt : p.2.used < b0.2.used
        · have e : older (some b0) (p :: r) = older (some p) r := by simp [older, hp, hlt]
          rw [e]
          rcases older_spec r (some p) (fun q e => by injection e with e; rw [← e]; exact hp) with ⟨_, h2, _⟩ | ⟨q, h1, h2, h3, h4, h5⟩
          · simp at h2
          · refine .inr ⟨q, h1, .inr ?_, h3, ?_, ?_⟩
            · rcases h2 with h2 | h2
              · injection h2 with h2; simp [h2]
              · simp [h2]
            · intro s hs; injection hs with hs; have := h4 p rfl; rw [← hs]; omega
            · intro s hs hs0
              rcases List.mem_cons.1 hs with rfl | hs
              · exact h4 _ rfl
              · exact h5 s hs hs0
        · have e : older (some b0) (p :: r) = older (some b0) r := by simp [older, hp, hlt]
          rw [e]
          rcases older_spec r (some b0) h with ⟨_, h2, _⟩ | ⟨q, h1, h2, h3, h4, h5⟩
          · simp at h2
          · refine .inr ⟨q, h1, ?_, h3, h4, ?_⟩
            · rcases h2 with h2 | h2
              · exact .inl h2
              · simp [h2]
            · intro s hs hs0
              rcases List.mem_cons.1 hs with rfl | hs
              · have := h4 b0 rfl; omega
              · exact h5 s hs hs0
    · have e : older b (p :: r) = older b r := by simp [older, hp]
      rw [e]
      rcases older_spec r b h with ⟨h1, h2, h3⟩ | ⟨q, h1, h2, h3, h4, h5⟩
      · refine .inl ⟨h1, h2, fun q hq => ?_⟩
        rcases List.mem_cons.1 hq with rfl | hq
        · exact hp
        · exact h3 q hq
      · refine .inr ⟨q, h1, ?_, h3, h4, ?_⟩
        · rcases h2 with h2 | h2
          · exact .inl h2
          · simp [h2]
        · intro s hs hs0
          rcases List.mem_cons.1 hs with rfl | hs
          · exact absurd hs0 hp
          · exact h5 s hs hs0

/-- the number that 'oldest' hands back -/
def oldN (l : List (Int × Pg)) : Int := match oldest l with | none => -1 | some k => k
theorem best_is {l : List (Int × Pg)} (hu : ∀ q ∈ l, ∀ r ∈ l, q.2.used = r.2.used → q.1 = r.1) {b : Int} (h : Best l (fun _ => True) b) : b = oldN l := by
  unfold oldN oldest
  rcases older_spec l none (by simp) with ⟨h1, _, h3⟩ | ⟨q, h1, h2, h3, _, h5⟩
  · rw [h1]
    rcases h with ⟨rfl, _⟩ | ⟨q, hq, _, _, hq0, _⟩
    · rfl
    · exact absurd hq0 (h3 q hq)
  · rw [h1]
    rcases h2 with h2 | h2
    · simp at h2
    · rcases h with ⟨rfl, hn⟩ | ⟨r, hr, rfl, _, hr0, hr1⟩
      · exact absurd h3 (hn q h2 trivial)
      · have := h5 r hr hr0
        have := hr1 q h2 trivial h3
        exact (hu q h2 r hr (by omega)).symm

theorem best_skip {l : List (Int × Pg)} {seen seen' : Int → Prop} {b : Int} {x : Int} {y : Pg} (h : Best l seen b) (hx : ∀ q ∈ l, q.1 = x → q.2 = y) (hp : y.pins ≠ 0)
    (hs : ∀ k, seen' k ↔ seen k ∨ k = x) : Best l seen' b := by
  rcases h with ⟨rfl, hn⟩ | ⟨q, hq, rfl, h1, h2, h3⟩
  · refine .inl ⟨rfl, fun q hq hsq => ?_⟩
    rcases (hs _).1 hsq with h | h
    · exact hn q hq h
    · rw [hx q hq h]; exact hp
  · refine .inr ⟨q, hq, rfl, (hs _).2 (.inl h1), h2, fun r hr hsr hr0 => ?_⟩
    rcases (hs _).1 hsr with h | h
    · exact h3 r hr h hr0
    · rw [hx r hr h] at hr0; exact absurd hr0 hp
theorem best_new {l : List (Int × Pg)} {seen seen' : Int → Prop} {x : Int} {y : Pg} (h : Best l seen (-1)) (h0 : ∀ q ∈ l, 0 ≤ q.1) (hm : (x, y) ∈ l) (hx : ∀ q ∈ l, q.1 = x → q.2 = y) (hp : y.pins = 0)
    (hs : ∀ k, seen' k ↔ seen k ∨ k = x) : Best l seen' x := by
  refine .inr ⟨(x, y), hm, rfl, (hs _).2 (.inr rfl), hp, fun r hr hsr hr0 => ?_⟩
  rcases (hs _).1 hsr with h' | h'
  · rcases h with ⟨_, hn⟩ | ⟨q, hq, e, _⟩
    · exact absurd hr0 (hn r hr h')
    · have := h0 q hq; omega
  · rw [hx r hr h']; exact Int.le_refl _
theorem best_less {l : List (Int × Pg)} {seen seen' : Int → Prop} {b x : Int} {z y : Pg} (h : Best l seen b) (hb : 0 ≤ b) (hzb : ∀ q ∈ l, q.1 = b → q.2 = z) (hm : (x, y) ∈ l) (hx : ∀ q ∈ l, q.1 = x → q.2 = y) (hp : y.pins = 0)
    (hlt : y.used < z.used) (hs : ∀ k, seen' k ↔ seen k ∨ k = x) : Best l seen' x := by
  refine .inr ⟨(x, y), hm, rfl, (hs _).2 (.inr rfl), hp, fun r hr hsr hr0 => ?_⟩
  rcases h with ⟨rfl, _⟩ | ⟨q, hq, rfl, _, _, h3⟩
  · omega
  · rcases (hs _).1 hsr with h' | h'
    · have e3 := h3 r hr h' hr0
      have e4 := hzb q hq rfl
      rw [e4] at e3
      simp; omega
    · rw [hx r hr h']; exact Int.le_refl _
theorem best_more {l : List (Int × Pg)} {seen seen' : Int → Prop} {b x : Int} {z y : Pg} (h : Best l seen b) (hb : 0 ≤ b) (hzb : ∀ q ∈ l, q.1 = b → q.2 = z) (hx : ∀ q ∈ l, q.1 = x → q.2 = y)
    (hle : z.used ≤ y.used) (hs : ∀ k, seen' k ↔ seen k ∨ k = x) : Best l seen' b := by
  rcases h with ⟨rfl, _⟩ | ⟨q, hq, rfl, h1, h2, h3⟩
  · omega
  · refine .inr ⟨q, hq, rfl, (hs _).2 (.inl h1), h2, fun r hr hsr hr0 => ?_⟩
    rcases (hs _).1 hsr with h' | h'
    · exact h3 r hr h' hr0
    · rw [hx r hr h', hzb q hq rfl]; exact hle

def Seen (left : Lit → Bool) (k : Int) : Prop := left (.int .i64 k) = false

theorem seen_step (left : Lit → Bool) (x k : Int) : Seen (fun z => left z && !z.sameKey (.int .i64 x)) k ↔ Seen left k ∨ k = x := by
  unfold Seen
  by_cases h : k = x
  · simp [h, Lit.sameKey]
  · simp [h, Lit.sameKey]

theorem isPage_bd {n i : Int} (h : isPage n i = true) : 0 ≤ i ∧ i ≤ 8192 := by
  have := jFirst_bd n
  have := jPages_bd n
  simp [isPage] at h
  omega
theorem wf_small {i : Int} (h : -4611686018427387904 ≤ i ∧ i ≤ 4611686018427387904) : (Lit.int .i64 i).wf = true := by
  have h1 : IntKind.i64.min = -9223372036854775808 := rfl
  have h2 : IntKind.i64.max = 9223372036854775807 := rfl
  show (decide (IntKind.i64.min ≤ i) && decide (i ≤ IntKind.i64.max)) = true
  rw [h1, h2]
  simp; omega

theorem ranges_drewN {w : World} {b r n : Nat} {D : DataW Value} {left : Lit → Bool} {cnt : Nat} (h : w.ranges Tryz.prog 3 RV b r n D left cnt) (m : Nat) :
    (w.drewN m).ranges Tryz.prog 3 RV b r n D left cnt := h
theorem below_drewN {B : Nat} {a w : World} (h : Below B a w) (n : Nat) : Below B a (w.drewN n) := ⟨h.os, h.tape, h.output, h.size, h.block⟩

set_option maxRecDepth 100000 in
set_option maxHeartbeats 1000000 in
theorem oldest_at {w : World} {L : PLoc} {S : Pgr} (h : PagerAt w L S) (hok : S.Ok) :
    Calls Tryz.prog 155 #[.pointer (some ⟨L.p, 0, none⟩)] w fun e w' => e = .returned (.int .i64 (oldN S.held)) ∧ Below w.heap.size w w' := by
  have c2 := cell_of h.p 2
  simp at c2
  have hpl := lt_of h.p
  have hown := h.held.own
  have hpg : ∀ q ∈ S.held, ∀ W, Below w.heap.size w W → W.cell? ⟨L.blk q.1, 1, none⟩ = some (.int .i64 q.2.pins) ∧ W.cell? ⟨L.blk q.1, 2, none⟩ = some (.int .i64 q.2.used) := fun q hq W hB => by
    have hb := h.page q hq
    have hl := lt_of hb
    exact ⟨(hB.cell (p := ⟨L.blk q.1, 1, none⟩) hl).trans (by rw [cell_of hb 1]; rfl), (hB.cell (p := ⟨L.blk q.1, 2, none⟩) hl).trans (by rw [cell_of hb 2]; rfl)⟩
  have HPG := Lib.hid hpg
  have HS := Lib.hid h.held.srt
  have HW := Lib.hid h.held.wf
  have HOK := Lib.hid hok
  clear hpg h hok
  go_enter Tryz.func155, Tryz.ntmps155
  go_wp2_with (first
    | (at_range; refine wpList_range_own _ rfl _ 159 rfl 3 170 key_law Tryz.underlying159 _ L.h (heldV L.blk S.held).length _ rfl hown ?_; intro w0 hrg0 hg0 hs0)
    | fail)
  go_frame
  go_loopw [3, 4, 5] (fun b _ _ wr => ∃ (left : Lit → Bool) (cnt : Nat) (k : Int), b = .int .i64 k ∧ wr.ranges Tryz.prog 3 RV L.h w.heap.size (heldV L.blk S.held).length (.map (encL (heldV L.blk S.held))) left cnt ∧ Below w.heap.size w wr ∧ Hid (Best S.held (Seen left) k))
    (fun _ _ _ wr => wr.rangeLeft L.h w.heap.size)
  case atStart =>
    refine ⟨_, _, -1, rfl, hrg0, (Below.refl _ w).grown hg0 (Nat.le_refl _) (fun k e => by cases e), .inl ⟨rfl, fun q hq hs => ?_⟩⟩
    exfalso
    unfold Seen at hs
    rw [enc_has] at hs
    have := mem_get HS.out (show (q.1, Value.pointer (some ⟨L.blk q.1, 0, none⟩)) ∈ heldV L.blk S.held from List.mem_map.2 ⟨q, hq, rfl⟩)
    rw [this] at hs
    simp at hs
  case round =>
    obtain ⟨left, cnt, k, rfl, hrg, hB, HB⟩ := hrel
    go_wp2_with (first
      | (at_next; refine wpList_next_ranges _ rfl _ rfl 3 key_law RV (Value.int .i64) id (fun key kl hk => by obtain ⟨x, hx, _⟩ := Maps.keyOf_int_inv Tryz.underlying3 hk; exact ⟨x, hx⟩) (fun v _ _ => ⟨v, rfl⟩) L.h w.heap.size _ _ _ _ rfl hrg ?_ ?_)
      | fail)
    · intro hc0 hl0
      have HE : Hid (k = oldN S.held) := by
        refine best_is HOK.out.used ?_
        rcases HB.out with ⟨h1, h2⟩ | ⟨q, h1, h2, h3, h4, h5⟩
        · exact .inl ⟨h1, fun q hq _ => h2 q hq (hl0 _)⟩
        · exact .inr ⟨q, h1, h2, trivial, h4, fun r hr _ => h5 r hr (hl0 _)⟩
      clear HB hrg
      go_wp2
      go_ret
      exact ⟨by rw [HE.out]; rfl, hB⟩
    · intro x c kl yd yp w1 cnt1 hkey hlk hv hat hrg1 hlt hg1 hs1 hen
      obtain ⟨x', ex, rfl, hwx⟩ := Maps.keyOf_int_inv Tryz.underlying3 hkey
      injection ex with _ ex
      subst ex
      -- which page it is
      have hm : ∃ y, (x, y) ∈ S.held ∧ c = .pointer (some ⟨L.blk x, 0, none⟩) := by
        have h1 := hat (.lit (.bool true))
        have h2 := hat (.lit (.bool false))
        rw [enc_at, heldV_eq, mapV_get] at h1 h2
        cases hg : get x S.held with
        | none => rw [hg] at h1 h2; simp at h1 h2; rw [← h1] at h2; simp at h2
        | some y =>
          rw [hg] at h1
          simp only [Option.map_some] at h1
          simp only [RV, id_eq, Option.some.injEq, Prod.mk.injEq] at hv
          rw [← hv.1] at h1
          injection h1 with h1
          exact ⟨y, get_mem hg, h1.symm⟩
      obtain ⟨y, hmy, rfl⟩ := hm
      have hB1 : Below w.heap.size w w1 := hB.grown hg1 hB.size (fun k e => by cases e; exact Nat.le_refl _)
      obtain ⟨y1, y2⟩ := HPG.out _ hmy w1 hB1
      simp only at y1 y2
      have z2 : w1.cell? ⟨L.p, 2, none⟩ = some (.map (some L.h)) := (hB1.cell (p := ⟨L.p, 2, none⟩) hpl).trans c2
      have HU : Hid (∀ q ∈ S.held, q.1 = x → q.2 = y) := fun q hq e => by
        have e1 := mem_get HOK.out.srt (show (q.1, q.2) ∈ S.held from hq)
        rw [e, mem_get HOK.out.srt hmy] at e1
        injection e1 with e1
        exact e1.symm
      have HL := Lib.hid hlt
      have HR := Lib.hid hrg1
      have HG := Lib.hid hrg
      have HM := Lib.hid hmy
      clear hlt hat hlk hv hkey hg1 hs1 hrg hmy
      by_cases hp0 : y.pins = 0
      · by_cases hk0 : k < 0
        · obtain rfl : k = -1 := by
            rcases HB.out with ⟨h1, _⟩ | ⟨q, hq, rfl, _⟩
            · exact h1
            · have := isPage_bd (HOK.out.held q hq).1; omega
          have HN := Lib.hid (best_new (seen' := Seen (fun z => left z && !z.sameKey (.int .i64 x))) HB.out (fun q hq => (isPage_bd (HOK.out.held q hq).1).1) HM.out HU.out hp0 (seen_step left x))
          rw [hp0] at y1
          clear hp0 hk0 HB
          go_wp2
          go_quiet (fail)
          go_wp2
          go_roundw
          case rel => exact ⟨_, cnt1, x, rfl, ranges_drewN HR.out nq, below_drewN hB1 nq, HN⟩
          case measure => rw [(ranges_drewN HR.out nq).left_eq, HG.out.left_eq]; exact HL.out
        · obtain ⟨q, hq, rfl, _⟩ : ∃ q ∈ S.held, k = q.1 ∧ True := by
            rcases HB.out with ⟨h1, _⟩ | ⟨q, hq, e, _⟩
            · omega
            · exact ⟨q, hq, e, trivial⟩
          obtain ⟨k, z⟩ := q
          simp only at hk0 HB ⊢
          obtain ⟨z1, z3⟩ := HPG.out _ hq w1 hB1
          simp only at z1 z3
          have hk : 0 ≤ k := by omega
          have hzb : ∀ q ∈ S.held, q.1 = k → q.2 = z := fun q hq' e => by
            have e1 := mem_get HOK.out.srt (show (q.1, q.2) ∈ S.held from hq')
            rw [e, mem_get HOK.out.srt hq] at e1
            injection e1 with e1
            exact e1.symm
          have hlook : ∀ n, (Instr.lookup 159 (.map (some L.h)) (.int .i64 k) false).run Tryz.prog (w1.drewN n) = .ok (.pointer (some ⟨L.blk k, 0, none⟩)) (w1.drewN n) := fun n => by
            have hMV : MapV (w1.drewN n) L.h (heldV L.blk S.held) := ⟨(ranges_drewN HR.out n).owns, HS.out, HW.out⟩
            have := hMV.look (k := k) Tryz.underlying159 (zero_page _) (wf_small (by have := isPage_bd (HOK.out.held _ hq).1; simp at this; omega))
            rw [heldV_eq, mapV_get, mem_get HOK.out.srt hq] at this
            exact this
          by_cases hlt : y.used < z.used
          · have HN := Lib.hid (best_less (seen' := Seen (fun z => left z && !z.sameKey (.int .i64 x))) HB.out hk hzb HM.out HU.out hp0 hlt (seen_step left x))
            rw [hp0] at y1
            clear hp0 hk0 HB hzb hq
            generalize y.used = yu at *
            generalize z.used = zu at *
            go_wp2
            go_quiet (fail)
            go_wp2
            go_roundw
            case rel => exact ⟨_, cnt1, x, rfl, ranges_drewN HR.out nq, below_drewN hB1 nq, HN⟩
            case measure => rw [(ranges_drewN HR.out nq).left_eq, HG.out.left_eq]; exact HL.out
          · have hle : z.used ≤ y.used := by omega
            have HN := Lib.hid (best_more (seen' := Seen (fun z => left z && !z.sameKey (.int .i64 x))) HB.out hk hzb HU.out hle (seen_step left x))
            rw [hp0] at y1
            clear hp0 hk0 HB hzb hq hlt
            generalize y.used = yu at *
            generalize z.used = zu at *
            go_wp2
            go_quiet (fail)
            go_wp2
            go_roundw
            case rel => exact ⟨_, cnt1, k, rfl, ranges_drewN HR.out nq, below_drewN hB1 nq, HN⟩
            case measure => rw [(ranges_drewN HR.out nq).left_eq, HG.out.left_eq]; exact HL.out
      · have HN := Lib.hid (best_skip (seen' := Seen (fun z => left z && !z.sameKey (.int .i64 x))) HB.out HU.out hp0 (seen_step left x))
        have hp0' : (y.pins == 0) = false := by simpa using hp0
        clear hp0 HB
        generalize y.pins = pn at *
        go_wp2
        go_quiet (fail)
        go_wp2
        go_roundw
        case rel => exact ⟨_, cnt1, k, rfl, ranges_drewN HR.out nq, below_drewN hB1 nq, HN⟩
        case measure => rw [(ranges_drewN HR.out nq).left_eq, HG.out.left_eq]; exact HL.out
end
/-! Hold -/
section
set_option linter.unusedSimpArgs false
set_option linter.unusedVariables false
open Go.RowKit Go.Maps

/-- what is held once there is room -/
def Pgr.holdIn (S : Pgr) (l : List (Int × Pg)) (i : Int) (s : ByteArray) : Pgr := { S with clock := S.clock + 1, held := ins i ⟨s, 0, S.clock + 1⟩ l }

/-- behind 'hold' the pager is at L', whose blocks are L's and new ones; the page that was handed back is the one held -/
structure Held (w w' : World) (L : PLoc) (S : Pgr) (S' : Pgr) (L' : PLoc) : Prop where
  at_ : PagerAt w' L' S'
  p : L'.p = L.p
  d : L'.d = L.d
  fp : ∀ b, L'.fp S' b → L.fp S b ∨ (w.heap.size ≤ b ∧ b < w'.heap.size)
  upd : Upd (L.fp S) w w'

theorem PagerAt.drewN {w : World} {L : PLoc} {S : Pgr} (h : PagerAt w L S) (n : Nat) : PagerAt (w.drewN n) L S := h.keep fun _ _ => rfl

/-- a new page, held and used: the pager behind it -/
theorem Held.new {w wx w1 w2 : World} {L : PLoc} {S : Pgr} {l : List (Int × Pg)} {i : Int} {s : ByteArray} (hX : PagerAt wx L { S with held := l }) (hsub : ∀ q ∈ l, q ∈ S.held) (hU : Upd (L.fp S) w wx) (hi : get i l = none) (hs : Srt l)
    (ht : Turn (wx.alloc (.cells #[.string s, .int .i64 0, .int .i64 0] 173 (0, 0))) w1 L.h)
    (h2 : PagerAt w2 { L with blk := fun k => if k = i then wx.heap.size else L.blk k } (Pgr.use { S with held := ins i ⟨s, 0, 0⟩ l } i ⟨s, 0, 0⟩))
    (hu : Upd (PLoc.fp { L with blk := fun k => if k = i then wx.heap.size else L.blk k } { S with held := ins i ⟨s, 0, 0⟩ l }) w1 w2) :
    Held w w2 L S (S.holdIn l i s) { L with blk := fun k => if k = i then wx.heap.size else L.blk k } := by
  have e : Pgr.use { S with held := ins i ⟨s, 0, 0⟩ l } i ⟨s, 0, 0⟩ = S.holdIn l i s := by simp [Pgr.use, Pgr.holdIn, ins_ins]
  rw [e] at h2
  have hw1 : w1.heap.size = wx.heap.size + 1 := by rw [ht.size]; simp
  have hw2 := hu.size
  have hwx := hU.size
  have fpx : ∀ (y : Pg) (b : Nat), PLoc.fp { L with blk := fun k => if k = i then wx.heap.size else L.blk k } { S with held := ins i y l } b → L.fp S b ∨ b = wx.heap.size := by
    intro y b hb
    rcases hb with h | h | h | h | h | h | ⟨q, hq, h⟩
    · exact .inl (.inl h)
    · exact .inl (.inr (.inl h))
    · exact .inl (.inr (.inr (.inl h)))
    · exact .inl (.inr (.inr (.inr (.inl h))))
    · exact .inl (.inr (.inr (.inr (.inr (.inl h)))))
    · exact .inl (.inr (.inr (.inr (.inr (.inr (.inl h))))))
    · rcases mem_ins hq with rfl | hq
      · exact .inr (by simpa using h)
      · have hne := get_none hi q hq
        simp only [if_neg hne] at h
        exact .inl (.inr (.inr (.inr (.inr (.inr (.inr ⟨q, hsub q hq, h⟩))))))
  refine ⟨h2, rfl, rfl, fun b hb => ?_, ?_⟩
  · rcases fpx _ b hb with h | h
    · exact .inl h
    · exact .inr (by omega)
  · have h1 : Upd (L.fp S) w w1 := (hU.alloc _).turn ht fun _ => .inr (.inr (.inr (.inl rfl)))
    refine h1.then hu fun b hb hf => ?_
    rcases fpx _ b hf with h | h
    · exact h
    · omega

set_option maxRecDepth 100000 in
set_option maxHeartbeats 1000000 in
theorem hold_room {w : World} {L : PLoc} {S : Pgr} (h : PagerAt w L S) (hok : S.Ok) (i : Int) (s : ByteArray) (hi : get i S.held = none) (hpg : isPage S.disk.n i = true)
    (hroom : S.full = false) (hc : S.clock < 4611686018427387904) :
    Calls Tryz.prog 109 #[.pointer (some ⟨L.p, 0, none⟩), .int .i64 i, .string s] w fun e w' =>
      ∃ L', e = .returned (.pointer (some ⟨L'.blk i, 0, none⟩)) ∧ Held w w' L S (S.holdIn S.held i s) L' := by
  have c1 := cell_of h.p 1
  have c2 := cell_of h.p 2
  simp at c1 c2
  have hpl := lt_of h.p
  have c2' : ∀ n o, ((w.drewN n).alloc o).cell? ⟨L.p, 2, none⟩ = some (.map (some L.h)) := fun n o => (World.cell?_of_block (Below.heap_alloc (w.drewN n) o L.p hpl)).trans c2
  have hlen := fun n => (h.held.congr (w' := w.drewN n) rfl).len Tryz.underlying159 3
  rw [heldV_eq, mapV_length] at hlen
  have hfull : (S.held.length : Int) < S.room := by simpa [Pgr.full] using hroom
  have hwf := Lib.hid (wf_small (i := i) (by have := isPage_bd hpg; omega))
  have HN := Lib.hid hok.len
  have hr := hok.room
  have H := Lib.hid h
  have HOK := Lib.hid hok
  have HI := Lib.hid hi
  have HC := Lib.hid hc
  clear h hok hroom hpg hi hc
  generalize hR : S.room = R at *
  have HR := Lib.hid hR
  clear hR
  generalize hln : S.held.length = ln at *
  have HLN := Lib.hid hln
  clear hln
  go_enter Tryz.func109, Tryz.ntmps109
  go_wp2
  go_quiet (fail)
  obtain ⟨w1, hput, hM1, hT1⟩ := MapV.put (w := (w.drewN nq).alloc (.cells #[.string s, .int .i64 0, .int .i64 0] 173)) (l := heldV L.blk S.held) (b := L.h) (k := i)
    ((H.out.drewN nq).held.congr (Below.heap_alloc _ _ _ H.out.held.lt)) Tryz.underlying159 (by rw [heldV_eq, mapV_length, HLN.out]; have := HN.out; unfold maxLen; omega) hwf.out (.pointer (some ⟨w.heap.size, 0, none⟩))
  have H1 := Lib.hid ((H.out.drewN nq).newPage (i := i) (s := s) HI.out rfl hT1 hM1)
  have HT := Lib.hid hT1
  have hcell := hT1.cell
  clear hM1 hT1
  go_wp2_with (go_at_call 107; have hu := use_at H1.out (srt_ins HOK.out.srt) (i := i) (x := ⟨s, 0, 0⟩) get_ins_same ⟨HOK.out.clock, HC.out⟩; simp only [if_true] at hu; refine hu.mono ?_; rintro e w2 ⟨rfl, hP2, hU2⟩; have HP2 := Lib.hid hP2; have HU2 := Lib.hid hU2; clear hP2 hU2 hu)
  go_ret
  exact ⟨_, by simp, Held.new (H.out.drewN nq) (fun _ h => h) ((Upd.refl _ w).drewN nq) HI.out HOK.out.srt HT.out HP2.out HU2.out⟩

theorem oldest_mem {l : List (Int × Pg)} {o : Int} (h : oldest l = some o) : ∃ x, (o, x) ∈ l ∧ x.pins = 0 := by
  unfold oldest at h
  rcases older_spec l none (by simp) with ⟨h1, _, _⟩ | ⟨q, h1, h2, h3, _, _⟩
  · rw [h1] at h; simp at h
  · rw [h1] at h
    simp at h
    rcases h2 with h2 | h2
    · simp at h2
    · exact ⟨q.2, by rw [← h]; exact h2, h3⟩

theorem below_pager {w w' : World} {L : PLoc} {S : Pgr} (hB : Below w.heap.size w w') (h : PagerAt w L S) : PagerAt w' L S := h.keep fun b hb => hB.block b (h.fp_lt hb)

set_option maxRecDepth 100000 in
set_option maxHeartbeats 1000000 in
theorem hold_none {w : World} {L : PLoc} {S : Pgr} (h : PagerAt w L S) (hok : S.Ok) (i : Int) (s : ByteArray)
    (hroom : S.full = true) (ho : oldest S.held = none) :
    Calls Tryz.prog 109 #[.pointer (some ⟨L.p, 0, none⟩), .int .i64 i, .string s] w fun e w' =>
      e = .returned (.pointer none) ∧ Below w.heap.size w w' := by
  have c1 := cell_of h.p 1
  have c2 := cell_of h.p 2
  simp at c1 c2
  have hlen := fun n => (h.held.congr (w' := w.drewN n) rfl).len Tryz.underlying159 3
  rw [heldV_eq, mapV_length] at hlen
  have hfull : S.room ≤ (S.held.length : Int) := by simpa [Pgr.full] using hroom
  have hO := fun n => oldest_at (h.drewN n) hok
  rw [show oldN S.held = -1 from by unfold oldN; rw [ho]] at hO
  have hr := hok.room
  have HN := Lib.hid hok.len
  clear h hok hroom ho
  generalize S.room = R at *
  generalize S.held.length = ln at *
  go_enter Tryz.func109, Tryz.ntmps109
  go_wp2
  go_quiet (fail)
  go_wp2_with (go_at_call 155; refine (hO nq).mono ?_; rintro e w1 ⟨rfl, hB⟩)
  go_ret
  exact ⟨rfl, ⟨hB.os, hB.tape, hB.output, hB.size, hB.block⟩⟩

set_option maxRecDepth 100000 in
set_option maxHeartbeats 1000000 in
theorem hold_full {w : World} {L : PLoc} {S : Pgr} (h : PagerAt w L S) (hok : S.Ok) (i : Int) (s : ByteArray) (hi : get i S.held = none) (hpg : isPage S.disk.n i = true)
    (hroom : S.full = true) (o : Int) (ho : oldest S.held = some o) (hc : S.clock < 4611686018427387904) :
    Calls Tryz.prog 109 #[.pointer (some ⟨L.p, 0, none⟩), .int .i64 i, .string s] w fun e w' =>
      ∃ L', e = .returned (.pointer (some ⟨L'.blk i, 0, none⟩)) ∧ Held w w' L S (S.holdIn (del o S.held) i s) L' := by
  have c1 := cell_of h.p 1
  have c2 := cell_of h.p 2
  simp at c1 c2
  have hpl := lt_of h.p
  have hlen := fun n => (h.held.congr (w' := w.drewN n) rfl).len Tryz.underlying159 3
  rw [heldV_eq, mapV_length] at hlen
  have hfull : S.room ≤ (S.held.length : Int) := by simpa [Pgr.full] using hroom
  have hO := fun n => oldest_at (h.drewN n) hok
  obtain ⟨xo, hmo, _⟩ := oldest_mem ho
  have hobd := isPage_bd (hok.held _ hmo).1
  simp only at hobd
  rw [show oldN S.held = o from by unfold oldN; rw [ho]] at hO
  have ho0 : 0 ≤ o := hobd.1
  have hwo := Lib.hid (wf_small (i := o) (by omega))
  have hwf := Lib.hid (wf_small (i := i) (by have := isPage_bd hpg; omega))
  have HI := Lib.hid (show get i (del o S.held) = none by
    by_cases e : i = o
    · rw [e]; exact get_del_same
    · rw [get_del_other e]; exact hi)
  have HSD := Lib.hid (srt_del (k := o) hok.srt)
  have hsub : ∀ q ∈ del o S.held, q ∈ S.held := fun q hq => (List.mem_filter.1 hq).1
  have HLE := Lib.hid (show (del o S.held).length ≤ 1024 by
    have h1 := hok.len; have h2 := hok.room.2; have h3 := del_length_le (k := o) (l := S.held); omega)
  have hr := hok.room
  have HN := Lib.hid hok.len
  have H := Lib.hid h
  have HOK := Lib.hid hok
  have HSUB := Lib.hid hsub
  have HC := Lib.hid hc
  clear h hok hroom hpg hi hc ho hmo hobd hsub
  generalize hR : S.room = R at *
  have HR := Lib.hid hR
  clear hR
  generalize hln : S.held.length = ln at *
  have HLN := Lib.hid hln
  clear hln
  go_enter Tryz.func109, Tryz.ntmps109
  go_wp2
  go_quiet (fail)
  go_wp2_with fail
  refine (hO nq).mono ?_
  rintro e w1 ⟨rfl, hB⟩
  have H1 := Lib.hid (below_pager hB (H.out.drewN nq))
  have hpl1 : L.p < w1.heap.size := lt_of H1.out.p
  have d2 : w1.cell? ⟨L.p, 2, none⟩ = some (.map (some L.h)) := by rw [cell_of H1.out.p 2]; rfl
  obtain ⟨w2, hdel, hM2, hT2⟩ := H1.out.held.drop (k := o) Tryz.underlying159 hwo.out 0
  rw [heldV_eq, ← mapV_del, ← heldV_eq] at hM2
  have H2 := Lib.hid (H1.out.turnHeld hM2 hT2 HSUB.out)
  have hcell2 := hT2.cell
  have e2 : ∀ o, (w2.alloc o).cell? ⟨L.p, 2, none⟩ = some (.map (some L.h)) := fun o =>
    (World.cell?_of_block (Below.heap_alloc w2 o L.p (lt_of H2.out.p))).trans (by rw [cell_of H2.out.p 2]; rfl)
  obtain ⟨w3, hput, hM3, hT3⟩ := MapV.put (w := w2.alloc (.cells #[.string s, .int .i64 0, .int .i64 0] 173)) (l := heldV L.blk (del o S.held)) (b := L.h) (k := i)
    (H2.out.held.congr (Below.heap_alloc _ _ _ H2.out.held.lt)) Tryz.underlying159 (by rw [heldV_eq, mapV_length]; have := HLE.out; unfold maxLen; omega) hwf.out (.pointer (some ⟨w2.heap.size, 0, none⟩))
  have H3 := Lib.hid (H2.out.newPage (i := i) (s := s) HI.out rfl hT3 hM3)
  have HT3 := Lib.hid hT3
  have HU2 := Lib.hid ((Upd.below (F := L.fp S) hB (fun x hx hle => absurd hx (Nat.not_lt.2 hle))).turn hT2 (fun _ => .inr (.inr (.inr (.inl rfl)))))
  have hcell3 := hT3.cell
  clear hM2 hT2 hM3 hT3 hB
  go_wp2_with fail
  have hu := use_at H3.out (srt_ins HSD.out) (i := i) (x := ⟨s, 0, 0⟩) get_ins_same ⟨HOK.out.clock, HC.out⟩
  simp only [if_true] at hu
  refine hu.mono ?_
  rintro e w4 ⟨rfl, hP4, hU4⟩
  have HP4 := Lib.hid hP4
  have HU4 := Lib.hid hU4
  clear hP4 hU4 hu
  go_wp2
  go_ret
  exact ⟨_, by simp, Held.new H2.out HSUB.out ⟨HU2.out.os, HU2.out.tape, HU2.out.output, HU2.out.size, HU2.out.block⟩ HI.out HSD.out HT3.out HP4.out HU4.out⟩
end
/-! Ok -/
section
set_option linter.unusedSimpArgs false
set_option linter.unusedVariables false
open Go.RowKit Go.Maps

theorem Pgr.hold_eq (S : Pgr) (i : Int) (s : ByteArray) : S.hold i s = if S.full then (match oldest S.held with | none => S | some o => S.holdIn (del o S.held) i s) else S.holdIn S.held i s := rfl
theorem Pgr.use_eq (S : Pgr) (i : Int) (x : Pg) : S.use i x = S.holdIn S.held i x.data ∨ True := .inr trivial

/-- one page more (or turned), the clock one on -/
theorem ok_ins {S : Pgr} (h : S.Ok) {l : List (Int × Pg)} (hl : ∀ q ∈ l, q ∈ S.held) (hsl : Srt l) {i : Int} {y : Pg} (hlen : ((ins i y l).length : Int) ≤ S.room) (hp : isPage S.disk.n i = true) (hpin : 0 ≤ y.pins) (hu : y.used = S.clock + 1)
    (hd : y.data.size = 256) (hc : get i S.changed = none) : Pgr.Ok { S with clock := S.clock + 1, held := ins i y l } := by
  have hmem : ∀ q ∈ ins i y l, (q = (i, y)) ∨ (q ∈ S.held ∧ q.1 ≠ i) := fun q hq => by
    by_cases e : q.1 = i
    · have := mem_get (srt_ins hsl) (show (q.1, q.2) ∈ ins i y l from hq)
      rw [e, get_ins_same] at this
      injection this with this
      exact .inl (by rw [← e, this])
    · rcases mem_ins hq with h' | h'
      · rw [h'] at e; exact absurd rfl e
      · exact .inr ⟨hl q h', e⟩
  refine ⟨h.room, hlen, srt_ins hsl, h.srtc, fun q hq => ?_, h.changed, fun q hq => ?_, fun q hq r hr e => ?_, h.blocks, h.sizes, ?_, h.reads⟩
  · rcases hmem q hq with rfl | ⟨hm, _⟩
    · have := h.clock; exact ⟨hp, hpin, by simp [hu]; omega, by simp [hu], hd⟩
    · obtain ⟨a, b, c, d, e⟩ := h.held q hm
      exact ⟨a, b, c, by simp only; omega, e⟩
  · rcases hmem q hq with rfl | ⟨hm, _⟩
    · exact hc
    · exact h.apart q hm
  · rcases hmem q hq with rfl | ⟨hm, _⟩
    · rcases hmem r hr with rfl | ⟨hm', _⟩
      · rfl
      · have := (h.held r hm').2.2.2.1; simp only [hu] at e; omega
    · rcases hmem r hr with rfl | ⟨hm', _⟩
      · have := (h.held q hm).2.2.2.1; simp only [hu] at e; omega
      · exact h.used q hm r hm' e
  · have := h.clock; simp only; omega

theorem ins_length_get {α : Type} {i : Int} {x y : α} : ∀ {l : List (Int × α)}, Srt l → get i l = some x → (ins i y l).length = l.length
  | [], _, h => by simp [get] at h
  | p :: r, hs, h => by
    obtain ⟨h1, h2⟩ := List.pairwise_cons.1 hs
    by_cases hp : p.1 = i
    · have : ins i y (p :: r) = (i, y) :: r := by unfold ins; rw [if_neg (by omega), if_pos hp]
      rw [this]; simp
    · have hr : get i r = some x := by unfold get at h ⊢; simpa [List.find?_cons, hp] using h
      have hlt := h1 _ (get_mem hr)
      simp at hlt
      have : ins i y (p :: r) = p :: ins i y r := by
        show (if i < p.1 then _ else if p.1 = i then _ else _) = _
        rw [if_neg (by omega), if_neg hp]
      rw [this]; simp [ins_length_get h2 hr]

theorem use_ok {S : Pgr} (h : S.Ok) {i : Int} {x y : Pg} (hx : get i S.held = some x) (hp : 0 ≤ y.pins) (hd : y.data.size = 256) : (S.use i y).Ok := by
  have hm := h.held _ (get_mem hx)
  exact ok_ins h (fun _ h => h) h.srt (i := i) (y := { y with used := S.clock + 1 }) (by rw [ins_length_get h.srt hx]; exact h.len) hm.1 hp rfl hd (h.apart _ (get_mem hx))
theorem full_none {S : Pgr} (h : S.Ok) (hf : S.full = false) : (S.held.length : Int) + 1 ≤ S.room := by
  simp [Pgr.full] at hf; omega
theorem hold_ok {S : Pgr} (h : S.Ok) {i : Int} {s : ByteArray} (hi : get i S.held = none) (hc : get i S.changed = none) (hp : isPage S.disk.n i = true) (hs : s.size = 256) : (S.hold i s).Ok := by
  rw [Pgr.hold_eq]
  cases hf : S.full
  · rw [if_neg (by simp)]
    exact ok_ins h (fun _ h => h) h.srt (i := i) (y := ⟨s, 0, S.clock + 1⟩) (by rw [ins_length hi]; have := full_none h hf; omega) hp (Int.le_refl _) rfl hs hc
  · rw [if_pos rfl]
    cases ho : oldest S.held with
    | none => exact h
    | some o =>
      obtain ⟨x, hx, _⟩ := oldest_mem ho
      refine ok_ins h (fun q hq => (List.mem_filter.1 hq).1) (srt_del h.srt) (l := del o S.held) (i := i) (y := ⟨s, 0, S.clock + 1⟩) ?_ hp (Int.le_refl _) rfl hs hc
      have h1 := del_length h.srt (k := o) (by rw [mem_get h.srt hx]; simp)
      have h2 := ins_length_le (k := i) (v := (⟨s, 0, S.clock + 1⟩ : Pg)) (l := del o S.held)
      have := h.len
      omega
theorem read_ok {S : Pgr} (h : S.Ok) (i : Int) : (S.read i).2.Ok := by
  unfold Pgr.read
  split
  · exact ⟨h.room, h.len, h.srt, h.srtc, h.held, h.changed, h.apart, h.used, h.blocks, h.sizes, h.clock, by have := h.reads; simp only; omega⟩
  · exact h
theorem read_held (S : Pgr) (i : Int) : (S.read i).2.held = S.held ∧ (S.read i).2.changed = S.changed ∧ (S.read i).2.clock = S.clock ∧ (S.read i).2.disk = S.disk ∧ (S.read i).2.room = S.room ∧ (S.read i).2.reads ≤ S.reads + 1 := by
  unfold Pgr.read
  split <;> simp <;> omega
theorem read_size {S : Pgr} (h : S.Ok) {i : Int} (hr : (S.disk.read i).2 = 0) : (S.disk.read i).1.size = 256 := by
  unfold Dsk.read at hr ⊢
  by_cases hm : S.disk.may i = 0
  · rw [if_pos hm]
    have hlt : 0 ≤ i ∧ i < S.disk.blocks.length := by
      unfold Dsk.may Dsk.n at hm
      split at hm
      · simp at hm
      · split at hm
        · simp at hm
        · omega
    have : i.toNat < S.disk.blocks.length := by omega
    simp only [List.getD, List.getElem?_eq_getElem this, Option.getD_some]
    exact h.sizes _ (List.getElem_mem this)
  · rw [if_neg hm] at hr
    exact absurd hr hm
theorem may_zero {S : Pgr} {i : Int} : S.may i = 0 ↔ isPage S.disk.n i = true := by
  unfold Pgr.may; split <;> simp_all
theorem load_ok {S : Pgr} (h : S.Ok) (i : Int) : (S.load i).2.Ok := by
  unfold Pgr.load
  by_cases hm : S.may i = 0
  · rw [if_neg (by simpa using hm)]
    cases hc : get i S.changed with
    | some s => exact h
    | none =>
      cases hx : get i S.held with
      | some x => have := (h.held _ (get_mem hx)); exact use_ok h hx this.2.1 this.2.2.2.2
      | none =>
        simp only
        by_cases hr : (S.disk.read i).2 = 0
        · rw [if_neg (by simpa using hr)]
          obtain ⟨e1, e2, e3, e4, _⟩ := read_held S i
          exact hold_ok (read_ok h i) (by rw [e1]; exact hx) (by rw [e2]; exact hc) (by rw [e4]; exact may_zero.1 hm) (read_size h hr)
        · rw [if_pos hr]; exact h
  · rw [if_pos hm]; exact h
theorem store_ok {S : Pgr} (h : S.Ok) (i : Int) (s : ByteArray) : (S.store i s).2.Ok := by
  have key : S.may i = 0 → s.size = 256 → Pgr.Ok { S with held := del i S.held, changed := ins i s S.changed } := fun hm hs => by
    have hsub : ∀ q ∈ del i S.held, q ∈ S.held ∧ q.1 ≠ i := fun q hq => by
      have := List.mem_filter.1 hq; exact ⟨this.1, by simpa using this.2⟩
    refine ⟨h.room, ?_, srt_del h.srt, srt_ins h.srtc, fun q hq => h.held q (hsub q hq).1, fun q hq => ?_, fun q hq => ?_, fun q hq r hr => h.used q (hsub q hq).1 r (hsub r hr).1, h.blocks, h.sizes, h.clock, h.reads⟩
    · have := h.len; have := del_length_le (k := i) (l := S.held); simp only; omega
    · rcases mem_ins hq with rfl | hq
      · exact ⟨may_zero.1 hm, hs⟩
      · exact h.changed q hq
    · show get q.1 (ins i s S.changed) = none
      rw [get_ins_other (hsub q hq).2]
      exact h.apart q (hsub q hq).1
  unfold Pgr.store
  by_cases hm : S.may i = 0
  · rw [if_neg (by simpa using hm)]
    by_cases hs : s.size = 256
    · rw [if_neg (by simpa using hs)]
      cases get i S.held with
      | none => exact key hm hs
      | some x =>
        simp only
        split
        · exact h
        · exact key hm hs
    · rw [if_pos hs]; exact h
  · rw [if_pos hm]; exact h
theorem unpin_ok {S : Pgr} (h : S.Ok) (i : Int) : (S.unpin i).2.Ok := by
  unfold Pgr.unpin
  cases hx : get i S.held with
  | none => exact h
  | some x =>
    simp only
    have hm := h.held _ (get_mem hx)
    split
    · exact h
    · rename_i hp
      have hmem : ∀ q ∈ ins i { x with pins := x.pins - 1 } S.held, q = (i, { x with pins := x.pins - 1 }) ∨ (q ∈ S.held ∧ q.1 ≠ i) := fun q hq => by
        by_cases e : q.1 = i
        · have := mem_get (srt_ins h.srt) (show (q.1, q.2) ∈ ins i { x with pins := x.pins - 1 } S.held from hq)
          rw [e, get_ins_same] at this
          injection this with this
          exact .inl (by rw [← e, this])
        · rcases mem_ins hq with h' | h'
          · rw [h'] at e; exact absurd rfl e
          · exact .inr ⟨h', e⟩
      refine ⟨h.room, by rw [ins_length_get h.srt hx]; exact h.len, srt_ins h.srt, h.srtc, fun q hq => ?_, h.changed, fun q hq => ?_, fun q hq r hr e => ?_, h.blocks, h.sizes, h.clock, h.reads⟩
      · rcases hmem q hq with rfl | ⟨hq, _⟩
        · simp only at hm ⊢; exact ⟨hm.1, by omega, hm.2.2.1, hm.2.2.2.1, hm.2.2.2.2⟩
        · exact h.held q hq
      · rcases hmem q hq with rfl | ⟨hq, _⟩
        · exact h.apart (i, x) (get_mem hx)
        · exact h.apart q hq
      · rcases hmem q hq with rfl | ⟨hq, _⟩
        · rcases hmem r hr with rfl | ⟨hr, _⟩
          · rfl
          · exact h.used (i, x) (get_mem hx) r hr e
        · rcases hmem r hr with rfl | ⟨hr, _⟩
          · exact h.used q hq (i, x) (get_mem hx) e
          · exact h.used q hq r hr e

theorem pin_ok {S : Pgr} (h : S.Ok) (i : Int) : (S.pin i).2.Ok := by
  unfold Pgr.pin
  by_cases hm : S.may i = 0
  · rw [if_neg (by simpa using hm)]
    cases hc : get i S.changed with
    | some s => exact h
    | none =>
      cases hx : get i S.held with
      | some x => have := (h.held _ (get_mem hx)); simp only at this; exact use_ok h hx (by simp only; omega) this.2.2.2.2
      | none =>
        simp only
        by_cases hf : (S.full && (oldest S.held).isNone) = true
        · rw [if_pos hf]; exact h
        · rw [if_neg hf]
          by_cases hr : (S.disk.read i).2 = 0
          · rw [if_neg (by simpa using hr)]
            obtain ⟨e1, e2, e3, e4, e5, _⟩ := read_held S i
            have h1 := hold_ok (read_ok h i) (s := (S.disk.read i).1) (by rw [e1]; exact hx) (by rw [e2]; exact hc) (by rw [e4]; exact may_zero.1 hm) (read_size h hr)
            have hg : ∃ y, get i ((S.read i).2.hold i (S.disk.read i).1).held = some y := by
              rw [Pgr.hold_eq]
              have hf' : (S.read i).2.full = S.full := by unfold Pgr.full; rw [e1, e5]
              rw [hf', e1]
              cases hF : S.full
              · rw [if_neg (by simp)]; exact ⟨_, get_ins_same⟩
              · rw [if_pos rfl]
                cases ho : oldest S.held with
                | none => simp [hF, ho] at hf
                | some o => exact ⟨_, get_ins_same⟩
            obtain ⟨y, hy⟩ := hg
            exact use_ok h1 hy (by simp) (read_size h hr)
          · rw [if_pos (by simpa using hr)]; exact h
  · rw [if_pos hm]; exact h
end
/-! Load -/
section
set_option linter.unusedSimpArgs false
set_option linter.unusedVariables false
open Go.RowKit Go.Maps

/-- behind a call: the pager is S', on the blocks that it had and new ones; nothing else has turned -/
structure Stp (F : Nat → Prop) (w w' : World) (p d : Nat) (S' : Pgr) : Prop where
  pat : PAt w' p d (ext F w w') S'
  upd : Upd F w w'

theorem Stp.refl {F : Nat → Prop} {w : World} {p d : Nat} {S : Pgr} (h : PAt w p d F S) : Stp F w w p d S := ⟨h.mono fun _ hb => .inl hb, Upd.refl _ _⟩
theorem Stp.of {F : Nat → Prop} {w w' : World} {L L' : PLoc} {S S' : Pgr} (hF : ∀ b, L.fp S b → F b) (h : Held w w' L S S' L') (hok : S'.Ok) : Stp F w w' L.p L.d S' :=
  ⟨⟨L', h.p, h.d, h.at_, fun b hb => (h.fp b hb).imp (hF b) id, hok⟩, h.upd.mono fun b _ hb => hF b hb⟩
theorem Stp.same {F : Nat → Prop} {w w' : World} {L : PLoc} {S S' : Pgr} (hF : ∀ b, L.fp S b → F b) (h : PagerAt w' L S') (hf : ∀ b, L.fp S' b → L.fp S b) (hu : Upd (L.fp S) w w') (hok : S'.Ok) : Stp F w w' L.p L.d S' :=
  ⟨⟨L, rfl, rfl, h, fun b hb => .inl (hF b (hf b hb)), hok⟩, hu.mono fun b _ hb => hF b hb⟩
theorem PAt.lt {w : World} {p d : Nat} {F : Nat → Prop} {S : Pgr} (h : PAt w p d F S) : PAt w p d (fun b => F b ∧ b < w.heap.size) S := by
  obtain ⟨L, rfl, rfl, hA, hF, hok⟩ := h
  exact ⟨L, rfl, rfl, hA, fun b hb => ⟨hF b hb, hA.fp_lt hb⟩, hok⟩
theorem Stp.trans {F : Nat → Prop} {a b c : World} {p d : Nat} {S S' : Pgr} (h : Stp F a b p d S) (k : Stp (ext F a b) b c p d S') : Stp F a c p d S' := by
  refine ⟨k.pat.mono fun x hx => ?_, h.upd.then k.upd fun x hx hf => ?_⟩
  · have h1 := h.upd.size
    have h2 := k.upd.size
    rcases hx with (hx | hx) | hx
    · exact .inl hx
    · exact .inr ⟨hx.1, by omega⟩
    · exact .inr ⟨by omega, hx.2⟩
  · rcases hf with hf | hf
    · exact hf
    · omega

theorem hold_at {w : World} {L : PLoc} {S : Pgr} (h : PagerAt w L S) (hok : S.Ok) (i : Int) (s : ByteArray) (hi : get i S.held = none) (hpg : isPage S.disk.n i = true) (hc : S.clock < 4611686018427387904) :
    Calls Tryz.prog 109 #[.pointer (some ⟨L.p, 0, none⟩), .int .i64 i, .string s] w fun e w' =>
      ∃ L' v, e = .returned v ∧ Held w w' L S (S.hold i s) L' ∧ ((S.full && (oldest S.held).isNone) = true → v = .pointer none) ∧ ((S.full && (oldest S.held).isNone) = false → v = .pointer (some ⟨L'.blk i, 0, none⟩)) := by
  rw [Pgr.hold_eq]
  cases hf : S.full
  · refine (hold_room h hok i s hi hpg hf hc).mono ?_
    rintro e w' ⟨L', he, hH⟩
    exact ⟨L', _, he, by simpa using hH, by simp, fun _ => rfl⟩
  · cases ho : oldest S.held with
    | none =>
      refine (hold_none h hok i s hf ho).mono ?_
      rintro e w' ⟨he, hB⟩
      refine ⟨L, _, he, ?_, fun _ => rfl, by simp⟩
      have hs : (if true = true then S else S.holdIn S.held i s) = S := by simp
      exact ⟨below_pager hB h, rfl, rfl, fun b hb => .inl hb, Upd.below hB fun x hx hle => absurd hx (Nat.not_lt.2 hle)⟩
    | some o =>
      refine (hold_full h hok i s hi hpg hf o ho hc).mono ?_
      rintro e w' ⟨L', he, hH⟩
      exact ⟨L', _, he, by simpa using hH, by simp, fun _ => rfl⟩

theorem use_fp {S : Pgr} {L : PLoc} {i : Int} {x y : Pg} (hx : get i S.held = some x) {b : Nat} (hb : L.fp (S.use i y) b) : L.fp S b := by
  rcases hb with h | h | h | h | h | h | ⟨q, hq, h⟩
  · exact .inl h
  · exact .inr (.inl h)
  · exact .inr (.inr (.inl h))
  · exact .inr (.inr (.inr (.inl h)))
  · exact .inr (.inr (.inr (.inr (.inl h))))
  · exact .inr (.inr (.inr (.inr (.inr (.inl h)))))
  · rcases mem_ins hq with rfl | hq
    · exact .inr (.inr (.inr (.inr (.inr (.inr ⟨_, get_mem hx, h⟩)))))
    · exact .inr (.inr (.inr (.inr (.inr (.inr ⟨q, hq, h⟩)))))

set_option maxRecDepth 100000 in
set_option maxHeartbeats 1000000 in
theorem load_at {w : World} {p d : Nat} {F : Nat → Prop} {S : Pgr} (h : PAt w p d F S) (i : Int) (hwf : (Lit.int .i64 i).wf = true) (hc : S.clock < 4611686018427387904) (hr : S.reads < 4611686018427387904) :
    Calls Tryz.prog 66 #[.pointer (some ⟨p, 0, none⟩), .int .i64 i] w fun e w' =>
      e = .returned (.tuple #[.string (S.load i).1.1, .int .i64 (S.load i).1.2]) ∧ Stp F w w' p d (S.load i).2 := by
  have HLO := Lib.hid (load_ok (S := S) (by obtain ⟨_, _, _, _, _, hok⟩ := h; exact hok) i)
  have HP := Lib.hid h
  obtain ⟨L, rfl, rfl, hA, hF, hok⟩ := h
  have HF := Lib.hid hF
  have HOK := Lib.hid hok
  have hM := pmay_any hA i
  have c2 := cell_of hA.p 2
  have c3 := cell_of hA.p 3
  simp at c2 c3
  by_cases hm : S.may i = 0
  · have hl1 := hA.changed.look_ok (k := i) Tryz.underlying160 (zero_str _) hwf
    have hl2 := hA.held.look (k := i) Tryz.underlying159 (zero_page _) hwf
    rw [changedV_eq, mapV_get] at hl1
    rw [heldV_eq, mapV_get] at hl2
    rw [hm] at hM
    cases hcg : get i S.changed with
    | some s =>
      have e1 : S.load i = ((s, 0), S) := by unfold Pgr.load; rw [if_neg (by simpa using hm), hcg]
      rw [e1]
      rw [hcg] at hl1
      simp at hl1
      clear hl2 hcg e1 hm hF hA hok HLO
      go_enter Tryz.func66, Tryz.ntmps66
      go_wp2_with (go_at_call 106; refine hM.mono ?_; rintro e w' ⟨rfl, rfl⟩)
      go_ret2
      exact ⟨rfl, Stp.refl HP.out⟩
    | none =>
      rw [hcg] at hl1
      simp at hl1
      cases hx : get i S.held with
      | some x =>
        have e1 : S.load i = ((x.data, 0), S.use i x) := by unfold Pgr.load; rw [if_neg (by simpa using hm), hcg, hx]
        rw [e1]
        rw [hx] at hl2
        simp at hl2
        have hU := use_at hA hok.srt hx ⟨hok.clock, hc⟩
        have hxm := hok.held _ (get_mem hx)
        simp only at hxm
        have HX := Lib.hid hx
        have HOU := Lib.hid (use_ok hok hx hxm.2.1 hxm.2.2.2.2)
        clear hcg e1 hm hF hA hok hx hxm HLO
        go_enter Tryz.func66, Tryz.ntmps66
        go_wp2_with (go_at_call 106; refine hM.mono ?_; rintro e w' ⟨rfl, rfl⟩)
        refine hU.mono ?_
        rintro e w1 ⟨rfl, hP1, hU1⟩
        have d0 : w1.cell? ⟨L.blk i, 0, none⟩ = some (.string x.data) := by
          rw [cell_of (hP1.page (i, { x with used := S.clock + 1 }) (get_mem get_ins_same)) 0]; rfl
        have HP1 := Lib.hid hP1
        have HU1 := Lib.hid hU1
        clear hP1 hU1
        go_wp2
        go_ret2
        exact ⟨rfl, Stp.same HF.out HP1.out (fun b hb => use_fp HX.out hb) HU1.out HOU.out⟩
      | none =>
        rw [hx] at hl2
        simp at hl2
        have hR := pread_at hA i ⟨hok.reads, hr⟩
        have HX := Lib.hid hx
        have HCG := Lib.hid hcg
        have HM := Lib.hid hm
        by_cases hz : (S.disk.read i).2 = 0
        · have e1 : S.load i = (((S.disk.read i).1, 0), (S.read i).2.hold i (S.disk.read i).1) := by
            unfold Pgr.load; rw [if_neg (by simpa using hm), hcg, hx]; simp only; rw [if_neg (by simpa using hz)]
          rw [hz] at hR
          rw [e1] at HLO ⊢
          clear hcg e1 hm hF hA hok hx hz
          go_enter Tryz.func66, Tryz.ntmps66
          go_wp2_with (go_at_call 106; refine hM.mono ?_; rintro e w' ⟨rfl, rfl⟩)
          refine hR.mono ?_
          rintro e w1 ⟨rfl, hP1, hU1⟩
          have HP1 := Lib.hid hP1
          have HU1 := Lib.hid hU1
          clear hP1 hU1
          go_wp2_with fail
          obtain ⟨r1, r2, r3, r4, r5, _⟩ := read_held S i
          refine (hold_at HP1.out (read_ok HOK.out i) i _ (by rw [r1]; exact HX.out) (by rw [r4]; exact may_zero.1 HM.out) (by rw [r3]; exact hc)).mono ?_
          rintro e w2 ⟨L', v, rfl, hH, _, _⟩
          have HH := Lib.hid hH
          clear hH r1 r2 r3 r4 r5
          go_wp2
          go_ret2
          refine ⟨rfl, ?_⟩
          have h2 := HH.out
          refine ⟨⟨L', h2.p, h2.d, h2.at_, fun b hb => ?_, HLO.out⟩, ?_⟩
          · have hs := HU1.out.size
            have hs2 := h2.upd.size
            rcases h2.fp b hb with hb | hb
            · exact .inl (HF.out b (by obtain ⟨r1, _⟩ := read_held S i; unfold PLoc.fp at hb ⊢; rw [r1] at hb; exact hb))
            · exact .inr ⟨by omega, hb.2⟩
          · refine (HU1.out.then h2.upd fun b _ hb => ?_).mono fun b _ hb => HF.out b hb
            obtain ⟨r1, _⟩ := read_held S i; unfold PLoc.fp at hb ⊢; rw [r1] at hb; exact hb
        · have e1 : S.load i = ((⟨#[]⟩, (S.disk.read i).2), S) := by
            unfold Pgr.load; rw [if_neg (by simpa using hm), hcg, hx]; simp only; rw [if_pos hz]
          have hS : (S.read i).2 = S := by simp [Pgr.read, hz]
          rw [hS] at hR
          rw [e1]
          have hz' : ((S.disk.read i).2 != 0) = true := by simpa using hz
          clear hcg e1 hm hF hA hok hx hz hS HLO
          generalize (S.disk.read i).2 = er at *
          go_enter Tryz.func66, Tryz.ntmps66
          go_wp2_with (go_at_call 106; refine hM.mono ?_; rintro e w' ⟨rfl, rfl⟩)
          refine hR.mono ?_
          rintro e w1 ⟨rfl, hP1, hU1⟩
          have HP1 := Lib.hid hP1
          have HU1 := Lib.hid hU1
          clear hP1 hU1
          go_wp2
          go_ret2
          exact ⟨rfl, Stp.same HF.out HP1.out (fun b hb => hb) HU1.out HOK.out⟩
  · have e1 : S.load i = ((⟨#[]⟩, S.may i), S) := by unfold Pgr.load; rw [if_pos hm]
    rw [e1]
    have hm' : (S.may i != 0) = true := by simpa using hm
    clear e1 hm hF hA hok HLO
    generalize S.may i = m at *
    go_enter Tryz.func66, Tryz.ntmps66
    go_wp2_with (go_at_call 106; refine hM.mono ?_; rintro e w' ⟨rfl, rfl⟩)
    go_ret2
    exact ⟨rfl, Stp.refl HP.out⟩
end
end Go.Proofs.YtmgcaohpbaiiaaaGreatDoor
