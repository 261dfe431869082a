/- The disk and the pager as plain data, and what their memory is. -/
import Derived.Test.YtdoankamaobkoaaGreatDoorBase
set_option linter.unusedSimpArgs false
set_option linter.unusedVariables false
namespace Go.Proofs.YtdoankamaobkoaaGreatDoor
open Go.RowKit Go.Maps

/-! ### plain data -/
structure Dsk where
  blocks : List ByteArray
  log : List (Int × ByteArray)
  left : Int
  told : Bool
  down : Bool

structure Pg where
  data : ByteArray
  pins : Int
  used : Int

structure Pgr where
  disk : Dsk
  room : Int
  held : List (Int × Pg)
  changed : List (Int × ByteArray)
  clock : Int
  reads : Int

/-- journal.blocks -/
def jBlocks (m : Int) : Int := (m + 127) / 128
/-- journal.Pages, from a guess down -/
def jDown (n : Int) : Nat → Nat
  | 0 => 0
  | m + 1 => if 2 * ((m : Int) + 1) + 1 + jBlocks (m + 1) > n then jDown n m else m + 1
def jPages (n : Int) : Int := if n < 64 ∨ 2048 < n then 0 else jDown n ((n - 1) / 2).toNat
def jFirst (n : Int) : Int := if jPages n = 0 then 0 else 2 + jBlocks (jPages n) + jPages n
/-- may a page be asked for? -/
def isPage (n at_ : Int) : Bool := decide (at_ = 0) || (decide (jFirst n ≤ at_) && decide (at_ < jFirst n + jPages n - 1))

def Dsk.n (S : Dsk) : Int := S.blocks.length
def Dsk.may (S : Dsk) (i : Int) : Int := if S.down then 17 else if i < 0 ∨ S.n ≤ i then 1 else 0
def Dsk.read (S : Dsk) (i : Int) : ByteArray × Int := if S.may i = 0 then (S.blocks.getD i.toNat ⟨#[]⟩, 0) else (⟨#[]⟩, S.may i)

def older : Option (Int × Pg) → List (Int × Pg) → Option (Int × Pg)
  | b, [] => b
  | b, p :: r => older (if p.2.pins = 0 then (match b with | none => some p | some q => if p.2.used < q.2.used then some p else some q) else b) r
def oldest (l : List (Int × Pg)) : Option Int := (older none l).map (·.1)

def Pgr.may (S : Pgr) (i : Int) : Int := if isPage S.disk.n i then 0 else 1
def Pgr.tick (S : Pgr) : Pgr := { S with clock := S.clock + 1 }
/-- a held page is used -/
def Pgr.use (S : Pgr) (i : Int) (x : Pg) : Pgr := { S with clock := S.clock + 1, held := ins i { x with used := S.clock + 1 } S.held }
def Pgr.full (S : Pgr) : Bool := decide (S.room ≤ (S.held.length : Int))
def Pgr.hold (S : Pgr) (i : Int) (s : ByteArray) : Pgr :=
  if S.full then
    match oldest S.held with
    | none => S
    | some o => { S with clock := S.clock + 1, held := ins i ⟨s, 0, S.clock + 1⟩ (del o S.held) }
  else { S with clock := S.clock + 1, held := ins i ⟨s, 0, S.clock + 1⟩ S.held }
def Pgr.read (S : Pgr) (i : Int) : (ByteArray × Int) × Pgr :=
  (S.disk.read i, if (S.disk.read i).2 = 0 then { S with reads := S.reads + 1 } else S)
def Pgr.load (S : Pgr) (i : Int) : (ByteArray × Int) × Pgr :=
  if S.may i ≠ 0 then ((⟨#[]⟩, S.may i), S) else
  match get i S.changed with
  | some s => ((s, 0), S)
  | none => match get i S.held with
    | some x => ((x.data, 0), S.use i x)
    | none => if (S.disk.read i).2 ≠ 0 then ((⟨#[]⟩, (S.disk.read i).2), S)
      else (((S.disk.read i).1, 0), (S.read i).2.hold i (S.disk.read i).1)
def Pgr.store (S : Pgr) (i : Int) (s : ByteArray) : Int × Pgr :=
  if S.may i ≠ 0 then (S.may i, S) else
  if s.size ≠ 256 then (3, S) else
  match get i S.held with
  | some x => if 0 < x.pins then (10, S) else (0, { S with held := del i S.held, changed := ins i s S.changed })
  | none => (0, { S with held := del i S.held, changed := ins i s S.changed })
def Pgr.pin (S : Pgr) (i : Int) : Int × Pgr :=
  if S.may i ≠ 0 then (S.may i, S) else
  match get i S.changed with
  | some _ => (19, S)
  | none => match get i S.held with
    | some x => (0, S.use i { x with pins := x.pins + 1 })
    | none =>
      if S.full && (oldest S.held).isNone then (10, S)
      else if (S.disk.read i).2 ≠ 0 then ((S.disk.read i).2, S)
      else (0, (((S.read i).2.hold i (S.disk.read i).1)).use i ⟨(S.disk.read i).1, 1, 0⟩)
def Pgr.unpin (S : Pgr) (i : Int) : Int × Pgr :=
  match get i S.held with
  | none => (8, S)
  | some x => if x.pins = 0 then (8, S) else (0, { S with held := ins i { x with pins := x.pins - 1 } S.held })

/-- what always holds of a pager -/
structure Pgr.Ok (S : Pgr) : Prop where
  room : 1 ≤ S.room ∧ S.room ≤ 1024
  len : (S.held.length : Int) ≤ S.room
  srt : Srt S.held
  srtc : Srt S.changed
  held : ∀ q ∈ S.held, isPage S.disk.n q.1 = true ∧ 0 ≤ q.2.pins ∧ 0 ≤ q.2.used ∧ q.2.used ≤ S.clock ∧ q.2.data.size = 256
  changed : ∀ q ∈ S.changed, isPage S.disk.n q.1 = true ∧ q.2.size = 256
  apart : ∀ q ∈ S.held, get q.1 S.changed = none
  used : ∀ q ∈ S.held, ∀ r ∈ S.held, q.2.used = r.2.used → q.1 = r.1
  blocks : 64 ≤ S.disk.blocks.length ∧ S.disk.blocks.length ≤ 2048
  sizes : ∀ s ∈ S.disk.blocks, s.size = 256
  clock : 0 ≤ S.clock
  reads : 0 ≤ S.reads

/-! ### memory -/
def pageCells (l : List (Int × ByteArray)) : List Value := l.flatMap fun p => [.int .i64 p.1, .string p.2]

structure DiskAt (w : World) (d bb : Nat) (lg : Value) (S : Dsk) : Prop where
  d : w.heap[d]? = some (.cells #[.slice (some ⟨bb, 0, none⟩) S.blocks.length S.blocks.length, lg, .int .i64 S.left, .bool S.told, .bool S.down] 83 (0, 0))
  bb : w.heap[bb]? = some (.cells (S.blocks.map Value.string).toArray 9 (0, 0))
  lg : w.ownsRow 0 112 2 lg S.log.length (pageCells S.log)

structure PLoc where
  p : Nat
  d : Nat
  bb : Nat
  h : Nat
  c : Nat
  lg : Value
  blk : Int → Nat

def heldV (blk : Int → Nat) (l : List (Int × Pg)) : List (Int × Value) := l.map fun q => (q.1, .pointer (some ⟨blk q.1, 0, none⟩))
def changedV (l : List (Int × ByteArray)) : List (Int × Value) := l.map fun q => (q.1, .string q.2)

structure PagerAt (w : World) (L : PLoc) (S : Pgr) : Prop where
  p : w.heap[L.p]? = some (.cells #[.pointer (some ⟨L.d, 0, none⟩), .int .i64 S.room, .map (some L.h), .map (some L.c), .int .i64 S.clock, .int .i64 S.reads] 110 (0, 0))
  disk : DiskAt w L.d L.bb L.lg S.disk
  held : MapV w L.h (heldV L.blk S.held)
  changed : MapV w L.c (changedV S.changed)
  page : ∀ q ∈ S.held, w.heap[L.blk q.1]? = some (.cells #[.string q.2.data, .int .i64 q.2.pins, .int .i64 q.2.used] 132 (0, 0))
  hc : L.h ≠ L.c
  inj : ∀ q ∈ S.held, ∀ r ∈ S.held, L.blk q.1 = L.blk r.1 → q.1 = r.1

def PLoc.fp (L : PLoc) (S : Pgr) (b : Nat) : Prop := b = L.p ∨ b = L.d ∨ b = L.bb ∨ b = L.h ∨ b = L.c ∨ L.lg.ownBlock = some b ∨ ∃ q ∈ S.held, b = L.blk q.1

def PAt (w : World) (p d : Nat) (F : Nat → Prop) (S : Pgr) : Prop := ∃ L : PLoc, L.p = p ∧ L.d = d ∧ PagerAt w L S ∧ (∀ b, L.fp S b → F b) ∧ S.Ok

theorem cell_of {w : World} {b : Nat} {cs : Array Value} {T : TypeId} {f : Nat × Nat} (h : w.heap[b]? = some (.cells cs T f)) (i : Nat) : w.cell? ⟨b, i, none⟩ = cs[i]? := by
  simp [World.cell?, h]
theorem frozen_of {w : World} {b : Nat} {cs : Array Value} {T : TypeId} (h : w.heap[b]? = some (.cells cs T (0, 0))) (i : Nat) : w.frozen? ⟨b, i, none⟩ = false := by
  simp [World.frozen?, h]
theorem lt_of {w : World} {b : Nat} {o : Obj} (h : w.heap[b]? = some o) : b < w.heap.size := (Array.getElem?_eq_some_iff.1 h).1

/-! ### lists of pairs under a map of their second parts -/
section
variable {α β : Type}
def mapV (f : Int → α → β) (l : List (Int × α)) : List (Int × β) := l.map fun q => (q.1, f q.1 q.2)
theorem mapV_ins (f : Int → α → β) (k : Int) (v : α) : ∀ l : List (Int × α), mapV f (ins k v l) = ins k (f k v) (mapV f l)
  | [] => rfl
  | p :: r => by
    have ih := mapV_ins f k v r
    simp only [mapV, List.map_cons] at ih ⊢
    unfold ins
    simp only
    split
    · rfl
    · split
      · rfl
      · simp only [List.map_cons, ih]
theorem mapV_del (f : Int → α → β) (k : Int) (l : List (Int × α)) : mapV f (del k l) = del k (mapV f l) := by
  unfold mapV del; rw [List.filter_map]; rfl
theorem mapV_get (f : Int → α → β) (k : Int) (l : List (Int × α)) : get k (mapV f l) = (get k l).map (f k) := by
  unfold mapV get
  rw [List.find?_map]
  simp only [Function.comp_def]
  cases hf : l.find? (fun p => decide (p.1 = k)) with
  | none => rfl
  | some p => have := List.find?_some hf; simp at this; simp [this]
theorem mapV_length (f : Int → α → β) (l : List (Int × α)) : (mapV f l).length = l.length := by simp [mapV]
theorem ins_get {k : Int} {v : α} : ∀ {l : List (Int × α)}, Srt l → get k l = some v → ins k v l = l
  | [], _, h => by simp [get] at h
  | p :: r, hs, h => by
    obtain ⟨h1, h2⟩ := List.pairwise_cons.1 hs
    have hm := get_mem h
    unfold ins
    by_cases hp : p.1 = k
    · have : get k (p :: r) = some p.2 := by simp [get, hp]
      rw [h] at this; injection this with hv
      rw [if_neg (by omega), if_pos hp, hv, ← hp]
    · rcases List.mem_cons.1 hm with rfl | hm
      · exact absurd rfl hp
      · have hlt := h1 _ hm
        simp at hlt
        rw [if_neg (by omega), if_neg hp]
        congr 1
        refine ins_get h2 ?_
        unfold get at h ⊢
        simpa [List.find?_cons, hp] using h
end
theorem heldV_eq (blk : Int → Nat) (l : List (Int × Pg)) : heldV blk l = mapV (fun k _ => .pointer (some ⟨blk k, 0, none⟩)) l := rfl
theorem changedV_eq (l : List (Int × ByteArray)) : changedV l = mapV (fun _ s => Value.string s) l := rfl

/-! ### memory that is as it was -/
theorem heap_setCell_same {w : World} {b : Nat} {cs : Array Value} {T : TypeId} {f : Nat × Nat} (h : w.heap[b]? = some (.cells cs T f)) (i : Nat) (v : Value) :
    (w.setCell ⟨b, i, none⟩ v).heap[b]? = some (.cells (cs.setIfInBounds i v) T f) := by
  simp only [World.setCell, Array.getElem?_modify, h]
  simp
theorem DiskAt.keep {w w' : World} {d bb : Nat} {lg : Value} {S : Dsk} (h : DiskAt w d bb lg S)
    (hk : ∀ b cs T f, w.heap[b]? = some (.cells cs T f) → (T = 83 ∨ T = 9 ∨ T = 112) → (b = d ∨ b = bb ∨ lg.ownBlock = some b) → w'.heap[b]? = w.heap[b]?) : DiskAt w' d bb lg S := by
  refine ⟨(hk _ _ _ _ h.d (.inl rfl) (.inl rfl)).trans h.d, (hk _ _ _ _ h.bb (.inr (.inl rfl)) (.inr (.inl rfl))).trans h.bb, ?_⟩
  obtain ⟨hl, hr⟩ := h.lg
  refine ⟨hl, ?_⟩
  rcases hr with hr | ⟨g, cap, cur, rfl, hb, hg, rest⟩
  · exact .inl hr
  · exact .inr ⟨g, cap, cur, rfl, hb, (hk _ _ _ _ hg (.inr (.inr rfl)) (.inr (.inr rfl))).trans hg, rest⟩
theorem DiskAt.fp_lt {w : World} {d bb : Nat} {lg : Value} {S : Dsk} (h : DiskAt w d bb lg S) {b : Nat} (hb : b = d ∨ b = bb ∨ lg.ownBlock = some b) : b < w.heap.size := by
  rcases hb with rfl | rfl | hb
  · exact lt_of h.d
  · exact lt_of h.bb
  · obtain ⟨_, ⟨rfl, _⟩ | ⟨g, cap, cur, rfl, _, hg, _⟩⟩ := h.lg
    · simp [Value.ownBlock] at hb
    · simp [Value.ownBlock] at hb; subst hb; exact lt_of hg
theorem DiskAt.fp_cells {w : World} {d bb : Nat} {lg : Value} {S : Dsk} (h : DiskAt w d bb lg S) {b : Nat} (hb : b = d ∨ b = bb ∨ lg.ownBlock = some b) :
    ∃ cs T, w.heap[b]? = some (.cells cs T (0, 0)) ∧ (T = 83 ∨ T = 9 ∨ T = 112) := by
  rcases hb with rfl | rfl | hb
  · exact ⟨_, _, h.d, .inl rfl⟩
  · exact ⟨_, _, h.bb, .inr (.inl rfl)⟩
  · obtain ⟨_, ⟨rfl, _⟩ | ⟨g, cap, cur, rfl, _, hg, _⟩⟩ := h.lg
    · simp [Value.ownBlock] at hb
    · simp [Value.ownBlock] at hb; subst hb; exact ⟨_, _, hg, .inr (.inr rfl)⟩

theorem PagerAt.fp_lt {w : World} {L : PLoc} {S : Pgr} (h : PagerAt w L S) {b : Nat} (hb : L.fp S b) : b < w.heap.size := by
  rcases hb with rfl | rfl | rfl | rfl | rfl | hb | ⟨q, hq, rfl⟩
  · exact lt_of h.p
  · exact lt_of h.disk.d
  · exact lt_of h.disk.bb
  · exact h.held.lt
  · exact h.changed.lt
  · exact h.disk.fp_lt (.inr (.inr hb))
  · exact lt_of (h.page q hq)
/-- what is as it was at the pager's own blocks is the same pager -/
theorem PagerAt.keep {w w' : World} {L : PLoc} {S : Pgr} (h : PagerAt w L S) (hk : ∀ b, L.fp S b → w'.heap[b]? = w.heap[b]?) : PagerAt w' L S where
  p := (hk _ (.inl rfl)).trans h.p
  disk := h.disk.keep fun b _ _ _ _ _ hb => hk b (by rcases hb with rfl | rfl | hb; exact .inr (.inl rfl); exact .inr (.inr (.inl rfl)); exact .inr (.inr (.inr (.inr (.inr (.inl hb))))))
  held := h.held.congr (hk _ (.inr (.inr (.inr (.inl rfl)))))
  changed := h.changed.congr (hk _ (.inr (.inr (.inr (.inr (.inl rfl))))))
  page := fun q hq => (hk _ (.inr (.inr (.inr (.inr (.inr (.inr ⟨q, hq, rfl⟩))))))).trans (h.page q hq)
  hc := h.hc
  inj := h.inj
theorem PAt.upd {w w' : World} {p d : Nat} {F G : Nat → Prop} {S : Pgr} (h : PAt w p d F S) (hu : Upd G w w') (hd : ∀ b, F b → ¬ G b) : PAt w' p d F S := by
  obtain ⟨L, hp, hd', hA, hF, hok⟩ := h
  exact ⟨L, hp, hd', hA.keep fun b hb => hu.block b (hA.fp_lt hb) (hd b (hF b hb)), hF, hok⟩
theorem PAt.mono {w : World} {p d : Nat} {F G : Nat → Prop} {S : Pgr} (h : PAt w p d F S) (hg : ∀ b, F b → G b) : PAt w p d G S := by
  obtain ⟨L, hp, hd', hA, hF, hok⟩ := h
  exact ⟨L, hp, hd', hA, fun b hb => hg b (hF b hb), hok⟩

/-- the clock, the reads -/
theorem PagerAt.top {w w' : World} {L : PLoc} {S : Pgr} (h : PagerAt w L S) {c r : Int}
    (hw : w'.heap[L.p]? = some (.cells #[.pointer (some ⟨L.d, 0, none⟩), .int .i64 S.room, .map (some L.h), .map (some L.c), .int .i64 c, .int .i64 r] 110 (0, 0)))
    (ho : ∀ b, b ≠ L.p → w'.heap[b]? = w.heap[b]?) : PagerAt w' L { S with clock := c, reads := r } where
  p := hw
  disk := h.disk.keep fun b cs T f hb hT _ => ho b fun e => by rw [e, h.p] at hb; simp at hb; rcases hT with rfl | rfl | rfl <;> simp at hb
  held := h.held.congr (ho _ fun e => by obtain ⟨es, c, hb⟩ := h.held.obj; rw [e, h.p] at hb; simp at hb)
  changed := h.changed.congr (ho _ fun e => by obtain ⟨es, c, hb⟩ := h.changed.obj; rw [e, h.p] at hb; simp at hb)
  page := fun q hq => (ho _ fun e => by have := h.page q hq; rw [e, h.p] at this; simp at this).trans (h.page q hq)
  hc := h.hc
  inj := h.inj
/-- a held page has turned -/
theorem PagerAt.turnPage {w w' : World} {L : PLoc} {S : Pgr} (h : PagerAt w L S) (hs : Srt S.held) {i : Int} {x y : Pg} (hx : get i S.held = some x)
    (hw : w'.heap[L.blk i]? = some (.cells #[.string y.data, .int .i64 y.pins, .int .i64 y.used] 132 (0, 0)))
    (ho : ∀ b, b ≠ L.blk i → w'.heap[b]? = w.heap[b]?) : PagerAt w' L { S with held := ins i y S.held } := by
  have hpg := h.page _ (get_mem hx)
  simp only at hpg
  refine ⟨(ho _ fun e => ?_).trans h.p, h.disk.keep fun b cs T f hb hT _ => ho b fun e => ?_, ?_, h.changed.congr (ho _ fun e => ?_), fun q hq => ?_, h.hc, fun q hq r hr e => ?_⟩
  · have := h.p; rw [e, hpg] at this; simp at this
  · rw [e, hpg] at hb; simp at hb; rcases hT with rfl | rfl | rfl <;> simp at hb
  · have e1 : heldV L.blk (ins i y S.held) = heldV L.blk S.held := by
      rw [heldV_eq, heldV_eq, mapV_ins]
      exact ins_get (by have := h.held.srt; rwa [heldV_eq] at this) (by rw [mapV_get, hx]; rfl)
    show MapV w' L.h (heldV L.blk (ins i y S.held))
    rw [e1]
    exact h.held.congr (ho _ fun e => by obtain ⟨es, c, hb⟩ := h.held.obj; rw [e, hpg] at hb; simp at hb)
  · obtain ⟨es, c, hb⟩ := h.changed.obj; rw [e, hpg] at hb; simp at hb
  · have hq' : q ∈ ins i y S.held := hq
    by_cases hqi : q.1 = i
    · have := mem_get (srt_ins hs) (show (q.1, q.2) ∈ ins i y S.held from hq')
      rw [hqi, get_ins_same] at this
      injection this with this
      rw [hqi, ← this]; exact hw
    · have hm : q ∈ S.held := by
        rcases mem_ins hq' with rfl | hm
        · exact absurd rfl hqi
        · exact hm
      exact (ho _ fun e => hqi (h.inj q hm _ (get_mem hx) e)).trans (h.page q hm)
  · have key : ∀ q ∈ ins i y S.held, ∃ q' ∈ S.held, q'.1 = q.1 := fun q hq => by
      rcases mem_ins hq with rfl | hm
      · exact ⟨_, get_mem hx, rfl⟩
      · exact ⟨q, hm, rfl⟩
    obtain ⟨q', hq', e1⟩ := key q hq
    obtain ⟨r', hr', e2⟩ := key r hr
    rw [← e1, ← e2] at e ⊢
    exact h.inj q' hq' r' hr' e

theorem ne_map {w : World} {b c : Nat} {l : List (Int × Value)} {cs : Array Value} {T : TypeId} {f : Nat × Nat} (hb : w.heap[b]? = some (.cells cs T f)) (hm : MapV w c l) : b ≠ c := by
  rintro rfl
  obtain ⟨es, k, h⟩ := hm.obj
  rw [hb] at h; simp at h
/-- the held pages' map has turned: fewer pages are held -/
theorem PagerAt.turnHeld {w w' : World} {L : PLoc} {S : Pgr} (h : PagerAt w L S) {l' : List (Int × Pg)} (hM : MapV w' L.h (heldV L.blk l')) (ht : Turn w w' L.h) (hsub : ∀ q ∈ l', q ∈ S.held) :
    PagerAt w' L { S with held := l' } where
  p := (ht.block _ (ne_map h.p h.held)).trans h.p
  disk := h.disk.keep fun b _ _ _ hb _ _ => ht.block b (ne_map hb h.held)
  held := hM
  changed := h.changed.congr (ht.block _ h.hc.symm)
  page := fun q hq => (ht.block _ (ne_map (h.page q (hsub q hq)) h.held)).trans (h.page q (hsub q hq))
  hc := h.hc
  inj := fun q hq r hr => h.inj q (hsub q hq) r (hsub r hr)
/-- the changed pages' map has turned -/
theorem PagerAt.turnChanged {w w' : World} {L : PLoc} {S : Pgr} (h : PagerAt w L S) {l' : List (Int × ByteArray)} (hM : MapV w' L.c (changedV l')) (ht : Turn w w' L.c) :
    PagerAt w' L { S with changed := l' } where
  p := (ht.block _ (ne_map h.p h.changed)).trans h.p
  disk := h.disk.keep fun b _ _ _ hb _ _ => ht.block b (ne_map hb h.changed)
  held := h.held.congr (ht.block _ h.hc)
  changed := hM
  page := fun q hq => (ht.block _ (ne_map (h.page q hq) h.changed)).trans (h.page q hq)
  hc := h.hc
  inj := h.inj
theorem heap_alloc_new' (w : World) (o : Obj) : (w.alloc o).heap[w.heap.size]? = some o := (MapKept.heap_alloc w o).1
/-- a page is held that was not -/
theorem PagerAt.newPage {w w' : World} {L : PLoc} {S : Pgr} (h : PagerAt w L S) {i : Int} {s : ByteArray} (hi : get i S.held = none) {cs : Array Value}
    (hcs : cs = #[.string s, .int .i64 0, .int .i64 0])
    (ht : Turn (w.alloc (.cells cs 132 (0, 0))) w' L.h) (hM : MapV w' L.h (ins i (.pointer (some ⟨w.heap.size, 0, none⟩)) (heldV L.blk S.held))) :
    PagerAt w' { L with blk := fun k => if k = i then w.heap.size else L.blk k } { S with held := ins i ⟨s, 0, 0⟩ S.held } := by
  have hk : ∀ b, b < w.heap.size → b ≠ L.h → w'.heap[b]? = w.heap[b]? := fun b hb hn => (ht.block b hn).trans (Below.heap_alloc w _ b hb)
  have hin : ∀ q ∈ S.held, q.1 ≠ i := fun q hq => get_none hi q hq
  have hmem : ∀ q ∈ ins i ⟨s, 0, 0⟩ S.held, q = (i, ⟨s, 0, 0⟩) ∨ (q ∈ S.held ∧ q.1 ≠ i) := fun q hq => by
    rcases mem_ins hq with h | h
    · exact .inl h
    · exact .inr ⟨h, hin q h⟩
  refine ⟨(hk _ (lt_of h.p) (ne_map h.p h.held)).trans h.p, h.disk.keep fun b _ _ _ hb _ _ => hk b (lt_of hb) (ne_map hb h.held), ?_, h.changed.congr (hk _ h.changed.lt h.hc.symm), fun q hq => ?_, h.hc, fun q hq r hr e => ?_⟩
  · show MapV w' L.h (heldV (fun k => if k = i then w.heap.size else L.blk k) (ins i ⟨s, 0, 0⟩ S.held))
    have e1 : heldV (fun k => if k = i then w.heap.size else L.blk k) (ins i ⟨s, 0, 0⟩ S.held) = ins i (.pointer (some ⟨w.heap.size, 0, none⟩)) (heldV L.blk S.held) := by
      rw [heldV_eq, mapV_ins]
      simp only [if_true]
      congr 1
      unfold heldV mapV
      exact List.map_congr_left fun q hq => by simp [hin q hq]
    rw [e1]; exact hM
  · rcases hmem q hq with rfl | ⟨hm, hne⟩
    · simp only [if_true]
      rw [ht.block _ (fun e => by have := h.held.lt; omega), heap_alloc_new', hcs]
    · have := h.page q hm
      simp only [if_neg hne]
      exact (hk _ (lt_of this) (ne_map this h.held)).trans this
  · rcases hmem q hq with rfl | ⟨hm, hne⟩
    · rcases hmem r hr with rfl | ⟨hm', hne'⟩
      · rfl
      · simp only [if_true, if_neg hne'] at e
        have := lt_of (h.page r hm'); omega
    · rcases hmem r hr with rfl | ⟨hm', hne'⟩
      · simp only [if_true, if_neg hne] at e
        have := lt_of (h.page q hm); omega
      · simp only [if_neg hne, if_neg hne'] at e
        exact h.inj q hm r hm' e
theorem ins_ins {α : Type} (k : Int) (u v : α) : ∀ l : List (Int × α), ins k u (ins k v l) = ins k u l
  | [] => by simp [ins]
  | p :: r => by
    by_cases h1 : k < p.1
    · simp [ins, h1]
    · by_cases h2 : p.1 = k
      · simp [ins, h1, h2]
      · simp [ins, h1, h2, ins_ins k u v r]
end Go.Proofs.YtdoankamaobkoaaGreatDoor
