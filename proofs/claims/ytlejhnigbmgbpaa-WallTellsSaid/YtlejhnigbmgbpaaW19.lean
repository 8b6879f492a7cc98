import Derived.Test.YtlejhnigbmgbpaaW18
namespace Go.Proofs.Ytlejhnigbmgbpaa
open Go.RowKit Go.Lamp

/-! What must be in any case. -/
def sh1 : List Cub := [⟨true, 7, [⟨3, 0, 1⟩, ⟨5, 0, 2⟩]⟩]
def sh2 : List Cub := [⟨true, 7, [⟨3, 0, 1⟩]⟩]
def sh3 : List Cub := [⟨true, 7, []⟩]
theorem sh_new : newM 1 = [Cub.bare] := rfl
theorem sh_sort : sortLn [⟨5, 0, 2⟩, ⟨3, 0, 1⟩] = [⟨3, 0, 1⟩, ⟨5, 0, 2⟩] :=
  (sorted_eq (ls' := [⟨3, 0, 1⟩, ⟨5, 0, 2⟩]) (List.Perm.swap _ _ _) (by simp) (by decide)).symm
theorem sh_a1 : assignM [Cub.bare] 7 [⟨5, 0, 2⟩, ⟨3, 0, 1⟩] = ((0, 0), sh1) := by
  unfold assignM
  rw [sh_sort]
  decide +kernel
theorem sh_a2 : assignM sh1 8 [] = ((0, 5), sh1) := by
  have h : sortLn [] = [] := by simp [sortLn]
  unfold assignM
  rw [h]
  decide +kernel
theorem sh_a3 : assignM sh1 7 [] = ((0, 8), sh1) := by
  have h : sortLn [] = [] := by simp [sortLn]
  unfold assignM
  rw [h]
  decide +kernel
theorem sh_scan : scanM sh1 5 = (0, 2, 0) := by decide +kernel
theorem sh_p1 : putM sh1 0 5 3 = (10, sh1) := by decide +kernel
theorem sh_p2 : putM sh1 0 5 2 = (0, sh2) := by decide +kernel
theorem sh_p3 : putM sh2 0 5 1 = (11, sh2) := by decide +kernel
theorem sh_less : lessM sh2 7 3 1 = (0, sh3) := by decide +kernel
theorem sh_rel : releaseM sh3 0 = ((7, 0), [Cub.bare]) := by decide +kernel
theorem sh_free : freeM [Cub.bare] = 1 := by decide +kernel

theorem LnsBelow.nil (n : Nat) (w : World) : LnsBelow n w (.slice none 0 0) [] := .inl ⟨rfl, rfl⟩

theorem lit_lines (w : World) : LnsBelow (w.alloc (.cells #[.int .u16 5, .int .u16 0, .int .i64 2, .int .u16 3, .int .u16 0, .int .i64 1] 50)).heap.size (w.alloc (.cells #[.int .u16 5, .int .u16 0, .int .i64 2, .int .u16 3, .int .u16 0, .int .i64 1] 50)) (.slice (some ⟨w.heap.size, 0, none⟩) 2 2) [⟨5, 0, 2⟩, ⟨3, 0, 1⟩] := by
  refine .inr ⟨w.heap.size, 2, rfl, by simp, fun k hk => ?_⟩
  match k, hk with
  | 0, _ => simp
  | 1, _ => simp

def Shown (W : World) (R : HProp) (en : Ending) (w' : World) : Prop := en = .returned (.bool true) ∧ Sat W w' R
set_option maxRecDepth 100000 in
set_option maxHeartbeats 2000000 in
theorem shown_calls {W w : World} {R : HProp} (hs : Sat W w R) : Calls Try.prog 9 #[] w (Shown W R) := by
  go_enter Try.func9, Try.ntmps9
  go_wp2_with fail
  refine (New_calls 1 hs).mono ?_
  rintro e w1 ⟨p, rfl, hs1⟩
  rw [sh_new] at hs1
  go_wp2_with fail
  have hA := Assign_calls 7 (some ⟨w1.heap.size, 0, none⟩) 2 2 [⟨5, 0, 2⟩, ⟨3, 0, 1⟩] (by simp) (by intro l hl; simp at hl; rcases hl with rfl | rfl <;> simp) (hs1.alloc_keep (.cells #[.int .u16 5, .int .u16 0, .int .i64 2, .int .u16 3, .int .u16 0, .int .i64 1] 50)) (lit_lines w1)
  rw [sh_a1] at hA
  refine hA.mono ?_
  rintro e w2 ⟨rfl, hs2⟩
  clear hA
  go_wp2_with fail
  have hA := Assign_calls 8 none 0 0 [] (by simp) (by simp) hs2 (LnsBelow.nil _ _)
  rw [sh_a2] at hA
  refine hA.mono ?_
  rintro e w3 ⟨rfl, hs3⟩
  clear hA
  go_wp2_with fail
  have hA := Assign_calls 7 none 0 0 [] (by simp) (by simp) hs3 (LnsBelow.nil _ _)
  rw [sh_a3] at hA
  refine hA.mono ?_
  rintro e w4 ⟨rfl, hs4⟩
  clear hA
  go_wp2_with fail
  have hA := Scan_calls 5 hs4
  rw [sh_scan] at hA
  refine hA.mono ?_
  rintro e w5 ⟨rfl, hb5⟩
  have hs5 := hs4.below hb5
  clear hA
  go_wp2_with fail
  have hA := Put_calls 0 5 3 hs5 (by omega)
  rw [sh_p1] at hA
  refine hA.mono ?_
  rintro e w6 ⟨rfl, hs6⟩
  clear hA
  go_wp2_with fail
  have hA := Put_calls 0 5 2 hs6 (by omega)
  rw [sh_p2] at hA
  refine hA.mono ?_
  rintro e w7 ⟨rfl, hs7⟩
  clear hA
  go_wp2_with fail
  have hA := Put_calls 0 5 1 hs7 (by omega)
  rw [sh_p3] at hA
  refine hA.mono ?_
  rintro e w8 ⟨rfl, hs8⟩
  clear hA
  go_wp2_with fail
  have hA := Less_calls 7 3 1 hs8 (by omega)
  rw [sh_less] at hA
  refine hA.mono ?_
  rintro e w9 ⟨rfl, hs9⟩
  clear hA
  go_wp2_with fail
  have hA := Release_calls 0 hs9
  rw [sh_rel] at hA
  refine hA.mono ?_
  rintro e w10 ⟨rfl, hs10⟩
  clear hA
  go_wp2_with fail
  have hA := Free_calls hs10
  rw [sh_free] at hA
  refine hA.mono ?_
  rintro e w11 ⟨rfl, hb11⟩
  have hs11 := hs10.below hb11
  clear hA
  go_wp2_with fail
  go_ret
  exact ⟨rfl, hs11.right⟩
end Go.Proofs.Ytlejhnigbmgbpaa
