import Derived.Test.YtlejhnigbmgbpaaW23
namespace Go.Proofs.Ytlejhnigbmgbpaa
open Go.RowKit Go.Lamp

/-! The plain law of WallScan. -/
def qtyAt (ls : List Ln) (item : Int) : Int := match ls[lower ls item]? with
  | some l => l.qty
  | none => 0
def seekM (ls : List Ln) (item : Int) (k : Nat) (c : Int) : Int × Int := if foundAt ls item = true ∧ lower ls item < k then (c, qtyAt ls item) else (-1, 0)
theorem seek_zero (ls : List Ln) (item c : Int) : seekM ls item 0 c = (-1, 0) := by unfold seekM; rw [if_neg (by omega)]
theorem lower_at {ls : List Ln} (h : Rising ls) {k : Nat} (hk : k < ls.length) : lower ls ls[k].item = k :=
  lower_unique ls _ k (by omega) (fun j hj hjk => rising_get h hjk hk) (fun _ => Int.le_refl _)
theorem found_at {ls : List Ln} (h : Rising ls) {k : Nat} (hk : k < ls.length) : foundAt ls ls[k].item = true := by
  unfold foundAt
  rw [lower_at h hk, List.getElem?_eq_getElem hk]
  simp
theorem seek_hit {ls : List Ln} (h : Rising ls) {k : Nat} (hk : k < ls.length) (c : Int) : seekM ls ls[k].item (k + 1) c = (c, ls[k].qty) := by
  unfold seekM qtyAt
  rw [if_pos ⟨found_at h hk, by rw [lower_at h hk]; omega⟩, lower_at h hk, List.getElem?_eq_getElem hk]
theorem seek_miss {ls : List Ln} {item : Int} {k : Nat} (hk : k < ls.length) (hne : ls[k].item ≠ item) (c : Int) : seekM ls item (k + 1) c = seekM ls item k c := by
  unfold seekM
  by_cases hf : foundAt ls item = true
  · obtain ⟨hi, hit⟩ := found_get hf
    have : lower ls item ≠ k := by rintro rfl; exact hne hit
    by_cases h2 : lower ls item < k
    · rw [if_pos ⟨hf, by omega⟩, if_pos ⟨hf, h2⟩]
    · rw [if_neg (by omega), if_neg (by omega)]
  · rw [if_neg (by simp [hf]), if_neg (by simp [hf])]
def firstM (cubs : List Cub) (item : Int) (c : Nat) : Int × Int := match cubs.findIdx? (hasItem item) with
  | some k => if k < c then (k, match cubs[k]? with | some x => qtyAt x.needs item | none => 0) else (-1, 0)
  | none => (-1, 0)
theorem firstM_zero (cubs : List Cub) (item : Int) : firstM cubs item 0 = (-1, 0) := by
  unfold firstM
  split
  · rw [if_neg (by omega)]
  · rfl
theorem firstM_neg {cubs : List Cub} {item : Int} {c : Nat} (h : (firstM cubs item c).1 < 0) : firstM cubs item c = (-1, 0) := by
  unfold firstM at *
  split at h
  · rename_i k hk
    by_cases h2 : k < c
    · rw [if_pos h2] at h; simp only at h; omega
    · rw [if_neg h2]
  · rfl
theorem needsM_len {cubs : List Cub} (h : WallOk cubs) (c : Int) : Rising (needsM cubs c) ∧ (needsM cubs c).length ≤ 12 ∧ ∀ l ∈ needsM cubs c, l.ok := by
  unfold needsM
  split
  · rename_i x hx
    obtain ⟨k, hk, rfl, rfl, _⟩ := heldAt_some hx
    have := h.2.2 _ (List.getElem_mem hk)
    exact ⟨this.rising, this.many, this.each⟩
  · exact ⟨List.Pairwise.nil, by simp, by simp⟩
theorem found_nil (item : Int) : foundAt [] item = false := rfl
theorem needsM_has {cubs : List Cub} (h : WallOk cubs) (item : Int) (c : Nat) : foundAt (needsM cubs c) item = match cubs[c]? with | some x => hasItem item x | none => false := by
  unfold needsM
  by_cases hc : c < cubs.length
  · rw [heldAt_in hc, List.getElem?_eq_getElem hc]
    cases hh : cubs[c].held with
    | true => rfl
    | false =>
      have := (h.2.2 _ (List.getElem_mem hc)).empty hh
      simp only [hasItem]
      rw [this]; rfl
  · rw [heldAt_out hc, List.getElem?_eq_none (by omega)]; rfl
theorem firstM_step {cubs : List Cub} (h : WallOk cubs) (item : Int) (c : Nat) (hf : (firstM cubs item c).1 < 0) : firstM cubs item (c + 1) = seekM (needsM cubs c) item (needsM cubs c).length c := by
  have hn := needsM_has h item c
  have hsk : seekM (needsM cubs c) item (needsM cubs c).length c = if foundAt (needsM cubs c) item = true then ((c : Int), qtyAt (needsM cubs c) item) else (-1, 0) := by
    unfold seekM
    by_cases hf : foundAt (needsM cubs c) item = true
    · obtain ⟨hi, _⟩ := found_get hf
      rw [if_pos ⟨hf, hi⟩, if_pos hf]
    · rw [if_neg (by simp [hf]), if_neg hf]
  rw [hsk, hn]
  unfold firstM at hf ⊢
  cases hk : cubs.findIdx? (hasItem item) with
  | none =>
    rw [List.findIdx?_eq_none_iff] at hk
    by_cases hc : c < cubs.length
    · rw [List.getElem?_eq_getElem hc]
      simp [hk _ (List.getElem_mem hc)]
    · rw [List.getElem?_eq_none (by omega)]; rfl
  | some k =>
    rw [hk] at hf
    obtain ⟨hkl, hkt, hkb⟩ := List.findIdx?_eq_some_iff_getElem.1 hk
    simp only at hf ⊢
    have hkc : ¬ k < c := by
      intro h2
      rw [if_pos h2] at hf
      simp only at hf
      omega
    by_cases hkc2 : k = c
    · subst hkc2
      rw [if_pos (by omega), List.getElem?_eq_getElem hkl]
      simp only [hkt, if_true]
      have : needsM cubs k = cubs[k].needs := by
        unfold needsM
        rw [heldAt_in hkl]
        cases hh : cubs[k].held with
        | true => rfl
        | false =>
          have := (h.2.2 _ (List.getElem_mem hkl)).empty hh
          rw [this]; rfl
      rw [this]
    · rw [if_neg (by omega)]
      by_cases hc : c < cubs.length
      · rw [List.getElem?_eq_getElem hc]
        have := hkb c (by omega)
        simp only [Bool.not_eq_true] at this
        simp [this]
      · omega
theorem firstM_end {cubs : List Cub} (h : WallOk cubs) (item : Int) (c : Nat) (hf : 0 ≤ (firstM cubs item c).1 ∨ cubs.length ≤ c) :
    (firstM cubs item c = (-1, 0) ∧ scanM cubs item = (0, 0, 11)) ∨
    ∃ (k : Nat) (q : Int), firstM cubs item c = ((k : Int), q) ∧ scanM cubs item = ((k : Int), q, 0) ∧ 1 ≤ q ∧ q ≤ 9223372036854775807 ∧ putM cubs k item (wrap64 (q + 1)) = (10, cubs) ∧ (putM cubs k item q).1 = 0 := by
  unfold firstM scanM at *
  cases hk : cubs.findIdx? (hasItem item) with
  | none => exact .inl ⟨rfl, rfl⟩
  | some k =>
    rw [hk] at hf
    obtain ⟨hkl, hkt, hkb⟩ := List.findIdx?_eq_some_iff_getElem.1 hk
    have hkc : k < c := by
      rcases hf with hf | hf
      · simp only at hf
        split at hf
        · assumption
        · simp at hf
      · omega
    refine .inr ⟨k, qtyAt cubs[k].needs item, ?_⟩
    simp only
    rw [if_pos hkc, List.getElem?_eq_getElem hkl]
    obtain ⟨hi, hit⟩ := found_get (show foundAt cubs[k].needs item = true from hkt)
    have hq : qtyAt cubs[k].needs item = cubs[k].needs[lower cubs[k].needs item].qty := by unfold qtyAt; rw [List.getElem?_eq_getElem hi]
    have hok := (h.2.2 _ (List.getElem_mem hkl)).each _ (List.getElem_mem hi)
    have hheld : cubs[k].held = true := by
      cases hh : cubs[k].held with
      | true => rfl
      | false =>
        have := (h.2.2 _ (List.getElem_mem hkl)).empty hh
        rw [this] at hi
        simp [Cub.bare] at hi
    have hat : heldAt cubs k = some cubs[k] := by rw [heldAt_in hkl, hheld]; rfl
    obtain ⟨_, _, o1, o2⟩ := hok
    refine ⟨rfl, ?_, by omega, by omega, ?_, ?_⟩
    · simp only
      rw [List.getElem?_eq_getElem hi, hq]
    · have hp : Cub.put cubs[k] item (wrap64 (qtyAt cubs[k].needs item + 1)) = (10, cubs[k]) := by
        unfold Cub.put
        rw [if_pos (show foundAt cubs[k].needs item = true from hkt), List.getElem?_eq_getElem hi, hq]
        simp only
        unfold wrap64
        split
        · rfl
        · rw [if_pos (by omega)]
      unfold putM
      rw [hat]
      simp only [hp]
      congr 1
      simp
    · unfold putM
      rw [hat]
      simp only
      unfold Cub.put
      rw [if_pos (show foundAt cubs[k].needs item = true from hkt), List.getElem?_eq_getElem hi, hq]
      simp only
      rw [if_neg (by omega), if_neg (by omega)]
      rfl
end Go.Proofs.Ytlejhnigbmgbpaa
