/- The fixed fact that is asked ahead of each statement on trees. -/
import Derived.Test.YtmgcaohpbaiiaaaGreatDoorTRoom
set_option linter.unusedSimpArgs false
set_option linter.unusedVariables false
namespace Go.Proofs.YtmgcaohpbaiiaaaGreatDoor
open Go.RowKit Go.Maps Go.Shelf

def wkA : ByteArray := ⟨#[97]⟩
def wkB : ByteArray := ⟨#[98]⟩
def wk1 : ByteArray := ⟨#[49]⟩
def wk2 : ByteArray := ⟨#[50]⟩
def TSw (l : List Ent) : TS := ⟨fun k => if k = 35 then some (1, l) else none, fun k => false || decide (k = 0)⟩
theorem wk_first : (jFirst 64).toNat = 34 := by decide
theorem wk_many : spMany 64 = 29 := by decide
theorem wk_new : newM 34 29 TS0 = some (⟨fun k => if k = 35 then some (1, []) else none, fun k => false || decide (k = 0)⟩, 35) := rfl
theorem TSw_store (l m : List Ent) (h : okB 1 m = true) : storeM 34 29 (TSw l) 35 1 m = some (TSw m) := by
  have : okM 34 29 (TSw l) 35 = true := rfl
  unfold storeM
  rw [if_pos (by rw [h, this]; rfl)]
  congr 1
  unfold TSw
  congr 1
  funext k
  by_cases hk : k = 35
  · simp [hk]
  · simp [hk]
theorem TSw_load (l : List Ent) : loadM (TSw l) 35 = some (1, l) := by simp [loadM, TSw]
theorem TSw_put (l : List Ent) (key value : ByteArray) (h : okB 1 (lPut l key value) = true) : ∃ ps, putM 34 29 35 key value 66 (TSw l) 35 = some (TSw (lPut l key value), ps) := by
  unfold putM finM
  have hs : lSize (lPut l key value) ≤ 256 := by
    simp [okB] at h
    exact h.2.2
  simp only [TSw_load, Option.bind_some, if_true, if_pos hs, TSw_store l _ h, Option.map_some]
  exact ⟨_, rfl⟩
theorem wk_lt : ltB wkB wkA = false := by rw [ltB_eq]; decide
theorem wk_lt2 : ltB wkA wkA = false := by rw [ltB_eq]; decide
theorem wk_lt3 : ltB wkA wkB = true := by rw [ltB_eq]; decide
theorem wk_lt4 : ltB wkA ⟨#[]⟩ = false := by rw [ltB_eq]; decide
theorem wk_lt5 : ltB wkB ⟨#[]⟩ = false := by rw [ltB_eq]; decide
theorem wk_ne : ¬ wkB = wkA := by decide
theorem wk_l1 : lPut [] wkB wk1 = [(wkB, wk1)] := rfl
theorem wk_l2 : lPut [(wkB, wk1)] wkA wk2 = [(wkA, wk2), (wkB, wk1)] := by simp [lPut, lHas, lIx, wk_lt, wk_ne, insL]
theorem wk_h3 : lHas [(wkA, wk2), (wkB, wk1)] wkA = true := by simp [lHas, lIx, wk_lt, wk_lt2]
theorem wk_l3 : lTake [(wkA, wk2), (wkB, wk1)] wkA = [(wkB, wk1)] := by simp [lTake, wk_h3, lIx, wk_lt, wk_lt2]
theorem wk_x : lIx [(wkA, wk2), (wkB, wk1)] ⟨#[]⟩ = 0 := by simp [lIx, wk_lt4, wk_lt5]
theorem wk_o1 : okB 1 [(wkB, wk1)] = true := by decide
theorem wk_o2 : okB 1 [(wkA, wk2), (wkB, wk1)] = true := by
  have h1 : inB (wkA, wk2) = true := by decide
  have h2 : inB (wkB, wk1) = true := by decide
  have h3 : lSize [(wkA, wk2), (wkB, wk1)] = 10 := by decide
  simp [okB, h1, h2, h3, ascB, wk_lt3]
section
variable {w0 w W : World} {s dk t root : Nat} {F : Nat → Prop} {N : Int} {V D : Int → ByteArray} {l : List Ent}
theorem wk_new_at (h : SIn w0 w s dk F 64 V D N) (hlt : ∀ b, F b → b < w.heap.size) (hS : Shows 64 V TS0) (hN : N < 1000000) :
    Calls Tryz.prog 10 #[.pointer (some ⟨s, 0, none⟩)] w fun e w' => ∃ F' V', e = .returned (.tuple #[.int .i64 35, .int .i64 0]) ∧ TSt w0 w w' s dk F F' 64 V' D (N + 8) ∧ Shows 64 V' (TSw []) := by
  have := tnew_any h hlt hS 35 (by rw [wk_first, wk_many]; exact wk_new) (by omega)
  exact this
theorem wk_put_at (h : TIn w0 w s dk F 64 V D N t 35 (TSw l)) (key value : ByteArray) (l' : List Ent) (hl : lPut l key value = l') (ho : okB 1 l' = true) (hk : key.size ≤ 32) (hv : value.size ≤ 64) (hk0 : key.toList.isEmpty = false) (hN : N < 1000000) :
    Calls Tryz.prog 18 #[.pointer (some ⟨t, 0, none⟩), .string key, .string value] w fun e w' => ∃ F' V', e = .returned (.int .i64 0) ∧ TRun w0 w w' s dk F F' 64 V' D (N + 6600) t 35 (TSw l') := by
  subst hl
  obtain ⟨ps, hp⟩ := TSw_put l key value ho
  exact tput_api h key value hk hv hk0 ps (by rw [wk_first, wk_many]; exact hp) (by omega)
theorem wk_del_at (h : TIn w0 w s dk F 64 V D N t 35 (TSw [(wkA, wk2), (wkB, wk1)])) (hN : N < 1000000) :
    Calls Tryz.prog 16 #[.pointer (some ⟨t, 0, none⟩), .string wkA] w fun e w' => ∃ F' V', e = .returned (.tuple #[.bool true, .int .i64 0]) ∧ TRun w0 w w' s dk F F' 64 V' D (N + 12) t 35 (TSw [(wkB, wk1)]) :=
  tdel_leaf h wkA _ _ (TSw_load _) wk_h3 (by rw [wk_first, wk_many, wk_l3]; exact TSw_store _ _ wk_o1) (TSw_load _) (by omega)
theorem wk_list_at (h : TIn w0 w s dk F 64 V D N t 35 (TSw [(wkA, wk2), (wkB, wk1)])) (hN : N < 1000000) :
    Calls Tryz.prog 13 #[.pointer (some ⟨t, 0, none⟩), .string ⟨#[]⟩, .int .i64 9] w fun e w' => ∃ F' v, e = .returned (.tuple #[v, .int .i64 0]) ∧ TIn w0 w' s dk F' 64 V D (N + 4) t 35 (TSw [(wkA, wk2), (wkB, wk1)]) ∧ EOwn w' w.heap.size v [(wkA, wk2), (wkB, wk1)] ∧ (∀ b, v.ownBlock = some b → ¬ F' b) := by
  have := tlist_leaf h _ (TSw_load _) (by simp) ⟨#[]⟩ 9 (by simp) (by omega) (by omega)
  rw [wk_x] at this
  exact this
end
end Go.Proofs.YtmgcaohpbaiiaaaGreatDoor
