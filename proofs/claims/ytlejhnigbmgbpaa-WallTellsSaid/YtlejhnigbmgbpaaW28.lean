import Derived.Test.YtlejhnigbmgbpaaW26
namespace Go.Proofs.Ytlejhnigbmgbpaa
open Go.RowKit Go.Lamp

/-! Rows written in place; the plain law of WallNeeds. -/
theorem _root_.Go.Lamp.Sat.row_set {W w : World} {R : HProp} {e : TypeId} {size n b cap : Nat} {xs : List Value} (h : Sat W w (Row e size (.slice (some ⟨b, 0, none⟩) n cap) n xs * R)) {i : Nat} (u : Value) :
    w.frozen? ⟨b, i, none⟩ = false ∧ Sat W (w.setCell ⟨b, i, none⟩ u) (Row e size (.slice (some ⟨b, 0, none⟩) n cap) n (xs.set i u) * R) := by
  rcases h.row_cases with ⟨h0, _⟩ | ⟨g, cap', cur, h0, h1, h2, h3, h4, hs⟩
  · cases h0
  · simp only [Value.slice.injEq, Option.some.injEq, Addr.mk.injEq, and_true, true_and] at h0
    obtain ⟨rfl, rfl⟩ := h0
    refine ⟨hs.free, ?_⟩
    have h5 := (hs.setCell (i := i) u).row_mk (n := n) (size := size) h1 h2 (by rw [Array.size_setIfInBounds]; exact h3)
    rw [Array.toList_setIfInBounds, List.take_set, h4] at h5
    exact h5

def zeroM (ls : List Ln) (k : Nat) : List Ln := ls.mapIdx fun i l => if i < k then { l with qty := 0 } else l
theorem zeroM_length (ls : List Ln) (k : Nat) : (zeroM ls k).length = ls.length := by simp [zeroM]
theorem zeroM_zero (ls : List Ln) : zeroM ls 0 = ls := by
  apply List.ext_getElem
  · simp [zeroM]
  · intro i h1 h2; simp [zeroM]
theorem zeroM_get (ls : List Ln) (k i : Nat) (h : i < (zeroM ls k).length) : (zeroM ls k)[i].item = (ls[i]'(by rw [zeroM_length] at h; exact h)).item ∧ (k ≤ i → (zeroM ls k)[i] = ls[i]'(by rw [zeroM_length] at h; exact h)) := by
  simp only [zeroM, List.getElem_mapIdx]
  constructor
  · split <;> rfl
  · intro h2; rw [if_neg (by omega)]
theorem zeroM_step (ls : List Ln) (k : Nat) (hk : k < ls.length) : (zeroM ls k).set k { ls[k] with qty := 0 } = zeroM ls (k + 1) := by
  apply List.ext_getElem
  · simp [zeroM]
  · intro i h1 h2
    rw [List.getElem_set]
    simp only [zeroM, List.getElem_mapIdx]
    split
    · rename_i h; subst h; rw [if_pos (by omega)]
    · rename_i h
      by_cases h3 : i < k
      · rw [if_pos h3, if_pos (by omega)]
      · rw [if_neg h3, if_neg (by omega)]
theorem zeroM_flat (ls : List Ln) (k : Nat) (hk : k < ls.length) : (flat Ln.cells (zeroM ls k)).set (k * 3 + 2) (.int .i64 0) = flat Ln.cells (zeroM ls (k + 1)) := by
  rw [← zeroM_step ls k hk]
  exact flat_set Ln.cells_length _ k 2 (by rw [zeroM_length]; exact hk) (by omega) _ _ (by rw [(zeroM_get ls k k (by rw [zeroM_length]; exact hk)).2 (Nat.le_refl _)]; rfl)
theorem LnAt.of_row' {W w : World} {e : TypeId} {b cap m n : Nat} {R : HProp} {ls : List Ln} (h : Sat W w (Row e 3 (.slice (some ⟨b, 0, none⟩) m cap) n (flat Ln.cells ls) * R)) : LnAt w b ls := by
  obtain ⟨b', cap', _, hv, _, _, hat⟩ := LnAt.of_row h
  rcases hv with hv | ⟨hv, _⟩
  · simp only [Value.slice.injEq, Option.some.injEq, Addr.mk.injEq] at hv
    obtain ⟨⟨rfl, _⟩, _⟩ := hv
    exact hat
  · cases hv
theorem full_needs (cubs : List Cub) (c : Int) : fullM cubs c = ((orderM cubs c).2 && decide ((needsM cubs c).length = 0)) ∧ ((orderM cubs c).2 = false → needsM cubs c = []) := by
  unfold fullM orderM needsM
  cases heldAt cubs c with
  | none => exact ⟨rfl, fun _ => rfl⟩
  | some x =>
    refine ⟨?_, fun h => by cases h⟩
    simp [List.isEmpty_iff, List.length_eq_zero_iff]
    cases x.needs <;> simp
end Go.Proofs.Ytlejhnigbmgbpaa
