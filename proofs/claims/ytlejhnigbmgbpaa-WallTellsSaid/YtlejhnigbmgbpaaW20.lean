import Derived.Test.YtlejhnigbmgbpaaW19
import Derived.Deep.DeepCutAuto
namespace Go.Proofs.Ytlejhnigbmgbpaa
open Go.RowKit Go.Lamp

/-! WallTurns: a wall without needs. -/
structure Turn (cubs : List Cub) (n i : Nat) : Prop where
  ok : WallOk cubs
  len : cubs.length = n
  bare : ∀ c ∈ cubs, c.needs = []
  old : ∀ c ∈ cubs, c.held = true → c.order < i
def isFree (c : Cub) : Bool := !c.held
/-- The least free cubby from c on. -/
def lf (cubs : List Cub) (c : Nat) : Int := if firstIdx isFree (cubs.drop c) < 0 then -1 else c + firstIdx isFree (cubs.drop c)
theorem firstIdx_cons {α : Type} (f : α → Bool) (a : α) (l : List α) : firstIdx f (a :: l) = if f a then 0 else if firstIdx f l < 0 then -1 else firstIdx f l + 1 := by
  unfold firstIdx
  rw [List.findIdx?_cons]
  cases h : f a
  · simp only [Bool.false_eq_true, if_false]
    cases l.findIdx? f with
    | none => simp
    | some k => simp only [Option.map_some]; rw [if_neg (by omega)]; omega
  · simp
theorem lf_end (cubs : List Cub) : lf cubs cubs.length = -1 := by unfold lf; simp [firstIdx]
theorem lf_zero (cubs : List Cub) : lf cubs 0 = firstFree cubs := by
  unfold lf firstFree
  have h := firstIdx_bound isFree cubs
  have e : firstIdx (fun c => !c.held) cubs = firstIdx isFree cubs := rfl
  rw [e]
  simp only [List.drop_zero]
  split <;> omega
theorem lf_step (cubs : List Cub) (c : Nat) (hc : c < cubs.length) : lf cubs c = if cubs[c].held then lf cubs (c + 1) else c := by
  unfold lf
  rw [List.drop_eq_getElem_cons hc, firstIdx_cons]
  have h := firstIdx_bound isFree (cubs.drop (c + 1))
  cases hh : cubs[c].held
  · simp [isFree, hh]
  · have e : isFree cubs[c] = false := by simp [isFree, hh]
    rw [e]
    generalize firstIdx isFree (cubs.drop (c + 1)) = x at *
    simp only [Bool.false_eq_true, if_false, if_true]
    (repeat' split) <;> omega
theorem Turn.start (a : Int) : Turn (newM a) (newM a).length 0 :=
  ⟨newM_ok a, rfl, fun c hc => by unfold newM at hc; rw [List.eq_of_mem_replicate hc]; rfl, fun c hc h => by unfold newM at hc; rw [List.eq_of_mem_replicate hc] at h; cases h⟩
theorem Turn.fresh {cubs : List Cub} {n i : Nat} (h : Turn cubs n i) : firstIdx (isOf i) cubs = -1 := by
  refine firstIdx_none fun j hj => ?_
  cases hh : cubs[j].held
  · simp [isOf, hh]
  · have := h.old _ (List.getElem_mem hj) hh
    simp [isOf, hh]
    omega
theorem Turn.assign {cubs : List Cub} {n i : Nat} (h : Turn cubs n i) : assignM cubs i [] = if firstFree cubs < 0 then ((0, 5), cubs) else ((firstFree cubs, 0), cubs.set (firstFree cubs).toNat ⟨true, i, []⟩) := by
  unfold assignM
  rw [h.fresh, if_neg (by omega), if_neg (by decide), show sortLn [] = [] by simp [sortLn]]
theorem Turn.mono {cubs : List Cub} {n i : Nat} (h : Turn cubs n i) : Turn cubs n (i + 1) := ⟨h.ok, h.len, h.bare, fun c hc hh => by have := h.old c hc hh; omega⟩
theorem Turn.set {cubs : List Cub} {n i : Nat} (h : Turn cubs n i) (k : Nat) : Turn (cubs.set k ⟨true, i, []⟩) n (i + 1) := by
  refine ⟨h.ok.set k ⟨List.Pairwise.nil, by simp, by simp, fun h => by cases h⟩, by simpa using h.len, fun c hc => ?_, fun c hc hh => ?_⟩
  · rcases List.mem_or_eq_of_mem_set hc with h1 | rfl
    · exact h.bare c h1
    · rfl
  · rcases List.mem_or_eq_of_mem_set hc with h1 | rfl
    · have := h.old c h1 hh; omega
    · show (i : Int) < _; omega
theorem Turn.clear {cubs : List Cub} {n i : Nat} (h : Turn cubs n i) (k : Nat) : Turn (cubs.set k Cub.bare) n i := by
  refine ⟨h.ok.set k Cub.bare_ok, by simpa using h.len, fun c hc => ?_, fun c hc hh => ?_⟩
  · rcases List.mem_or_eq_of_mem_set hc with h1 | rfl
    · exact h.bare c h1
    · rfl
  · rcases List.mem_or_eq_of_mem_set hc with h1 | rfl
    · exact h.old c h1 hh
    · cases hh
theorem full_all {cubs : List Cub} (h : firstFree cubs < 0) : ∀ k (hk : k < cubs.length), cubs[k].held = true := by
  intro k hk
  cases hh : cubs[k].held with
  | true => rfl
  | false =>
    exfalso
    have hb := firstIdx_bound (fun c : Cub => !c.held) cubs
    unfold firstFree firstIdx at h
    cases h2 : cubs.findIdx? (fun c => !c.held) with
    | some j => rw [h2] at h; simp only at h; omega
    | none =>
      rw [List.findIdx?_eq_none_iff] at h2
      have := h2 _ (List.getElem_mem hk)
      simp [hh] at this
theorem Turn.release {cubs : List Cub} {n i k : Nat} (h : Turn cubs n i) (hf : firstFree cubs < 0) (hk : k < n) : releaseM cubs k = (((orderM cubs k).1, 0), cubs.set k Cub.bare) := by
  have hk' : k < cubs.length := by rw [h.len]; exact hk
  unfold releaseM fullM
  rw [heldAt_in hk', if_pos (full_all hf k hk')]
  simp only [h.bare _ (List.getElem_mem hk'), List.isEmpty_nil, if_true, Int.toNat_natCast]
theorem Turn.free {cubs : List Cub} {n i k : Nat} (h : Turn cubs n i) (hf : firstFree cubs < 0) (hk : k < n) : freeM (cubs.set k Cub.bare) = 1 := by
  have hk' : k < cubs.length := by rw [h.len]; exact hk
  have hall := full_all hf
  unfold freeM
  rw [List.set_eq_take_append_cons_drop, if_pos hk', List.filter_append, List.filter_cons_of_pos (by rfl)]
  have e1 : (cubs.take k).filter (fun c => !c.held) = [] := by
    rw [List.filter_eq_nil_iff]
    intro c hc
    obtain ⟨j, hj, rfl⟩ := List.getElem_of_mem (List.mem_of_mem_take hc)
    simp [hall j hj]
  have e2 : (cubs.drop (k + 1)).filter (fun c => !c.held) = [] := by
    rw [List.filter_eq_nil_iff]
    intro c hc
    obtain ⟨j, hj, rfl⟩ := List.getElem_of_mem (List.mem_of_mem_drop hc)
    simp [hall j hj]
  rw [e1, e2]
  rfl
/-- The array of who is held. -/
def hcells (cubs : List Cub) : List Value := (List.range 16).map fun k => Value.bool ((cubs[k]?.map (·.held)).getD false)
theorem hcells_get (cubs : List Cub) (k : Nat) (hk : k < cubs.length) (h16 : cubs.length ≤ 16) : (hcells cubs)[k]? = some (.bool cubs[k].held) := by
  unfold hcells
  rw [List.getElem?_map, List.getElem?_range (by omega)]
  simp [hk]
theorem hcells_set (cubs : List Cub) (k : Nat) (hk : k < cubs.length) (c : Cub) : hcells (cubs.set k c) = (hcells cubs).set k (.bool c.held) := by
  apply List.ext_getElem?
  intro j
  unfold hcells
  rw [List.getElem?_set, List.getElem?_map, List.getElem?_map, List.length_map, List.length_range]
  by_cases hj : j < 16
  · rw [List.getElem?_range hj]
    simp only [Option.map_some, List.getElem?_set]
    by_cases e : k = j
    · subst e; simp [hk, hj]
    · simp [e]
  · rw [List.getElem?_eq_none (by simp; omega)]
    simp; omega
theorem hcells_bare (a : Int) : hcells (newM a) = List.replicate 16 (.bool false) := by
  unfold hcells
  apply List.ext_getElem
  · simp
  · intro i h1 h2
    simp only [List.getElem_map, List.getElem_range, List.getElem_replicate]
    unfold newM
    congr 1
    rw [List.getElem?_replicate]
    split <;> rfl
end Go.Proofs.Ytlejhnigbmgbpaa
