import Derived.Test.YtlejhnigbmgbpaaW1
namespace Go.Proofs.Ytlejhnigbmgbpaa
open Go.RowKit Go.Lamp

/-- How many lines are of lesser items. -/
def lower (ls : List Ln) (item : Int) : Nat := (ls.takeWhile (fun l => decide (l.item < item))).length
def Rising (ls : List Ln) : Prop := ls.Pairwise (fun a b => a.item < b.item)
def foundAt (ls : List Ln) (item : Int) : Bool := match ls[lower ls item]? with
  | some l => l.item == item
  | none => false

theorem lower_le (ls : List Ln) (item : Int) : lower ls item ≤ ls.length := by
  unfold lower; exact (List.takeWhile_sublist _).length_le
/-- A place that parts the lesser from the others is the one. -/
theorem lower_unique (ls : List Ln) (item : Int) (i : Nat) (hi : i ≤ ls.length) (h1 : ∀ k (hk : k < ls.length), k < i → ls[k].item < item) (h2 : ∀ (hk : i < ls.length), item ≤ ls[i].item) : lower ls item = i := by
  unfold lower
  induction ls generalizing i with
  | nil => simp at hi; simp [hi]
  | cons a l ih =>
    cases i with
    | zero =>
      have := h2 (by simp)
      simp at this
      rw [List.takeWhile_cons_of_neg (by simp; omega)]; rfl
    | succ i =>
      have h0 := h1 0 (by simp) (by omega)
      simp at h0
      rw [List.takeWhile_cons_of_pos (by simp; omega)]
      simp only [List.length_cons, Nat.add_right_cancel_iff]
      exact ih i (by simpa using hi) (fun k hk hki => by have := h1 (k + 1) (by simpa using hk) (by omega); simpa using this) (fun hk => by have := h2 (by simpa using hk); simpa using this)

theorem rising_get {ls : List Ln} (h : Rising ls) {i j : Nat} (hij : i < j) (hj : j < ls.length) : ls[i].item < ls[j].item := List.pairwise_iff_getElem.1 h i j (by omega) hj hij

theorem found_in {ls : List Ln} {item : Int} {i : Nat} (h : lower ls item = i) (hi : i < ls.length) : (cmp3 ls[i].item item == 0) = foundAt ls item := by
  unfold foundAt
  rw [h, List.getElem?_eq_getElem hi]
  unfold cmp3
  rw [Bool.eq_iff_iff]
  simp only [beq_iff_eq]
  (repeat' split) <;> omega
theorem found_out {ls : List Ln} {item : Int} {i : Nat} (h : lower ls item = i) (hi : ¬ i < ls.length) : false = foundAt ls item := by
  unfold foundAt
  rw [h, List.getElem?_eq_none (by omega)]
/-- The cells of a list of lines at a place in memory. -/
def LnAt (w : World) (b : Nat) (ls : List Ln) : Prop := ∀ k (hk : k < ls.length),
  w.cell? ⟨b, k * 3, none⟩ = some (.int .u16 ls[k].item) ∧ w.cell? ⟨b, k * 3 + 1, none⟩ = some (.int .u16 ls[k].loc) ∧ w.cell? ⟨b, k * 3 + 2, none⟩ = some (.int .i64 ls[k].qty)
theorem LnAt.below {w w' : World} {b : Nat} {ls : List Ln} (h : LnAt w b ls) (hb : Below w.heap.size w w') : LnAt w' b ls := by
  intro k hk
  obtain ⟨h0, h1, h2⟩ := h k hk
  have hlt := World.block_lt_of_cell? w _ h0
  exact ⟨(hb.cell (p := ⟨b, k * 3, none⟩) hlt).trans h0, (hb.cell (p := ⟨b, k * 3 + 1, none⟩) hlt).trans h1, (hb.cell (p := ⟨b, k * 3 + 2, none⟩) hlt).trans h2⟩
theorem LnAt.of_row {W w : World} {e n : Nat} {v : Value} {R : HProp} {ls : List Ln} (h : Sat W w (Row e 3 v n (flat Ln.cells ls) * R)) :
    ∃ b cap, n = ls.length ∧ ((v = .slice (some ⟨b, 0, none⟩) n cap) ∨ (v = .slice none 0 0 ∧ n = 0)) ∧ n ≤ cap ∧ cap ≤ maxLen ∧ LnAt w b ls := by
  have hl := h.row_len
  rw [flat_length Ln.cells_length] at hl
  have hn : n = ls.length := by omega
  subst hn
  have key : ∀ {b : Nat}, (∀ j, j < ls.length * 3 → w.cell? ⟨b, j, none⟩ = (flat Ln.cells ls)[j]?) → LnAt w b ls := fun {b} hc k hk => by
    refine ⟨?_, ?_, ?_⟩
    · rw [hc _ (by omega)]; have := flat_get Ln.cells_length ls k 0 hk (by omega); simpa [Ln.cells] using this
    · rw [hc _ (by omega), flat_get Ln.cells_length ls k 1 hk (by omega)]; rfl
    · rw [hc _ (by omega), flat_get Ln.cells_length ls k 2 hk (by omega)]; rfl
  obtain ⟨b, cap, hv, hcap, hmax, hc⟩ := h.row_cell
  rcases hv with rfl | ⟨h0, rfl, rfl⟩
  · exact ⟨b, cap, rfl, .inl rfl, hcap, hmax, key hc⟩
  · refine ⟨0, 0, rfl, .inr ⟨rfl, h0⟩, hcap, hmax, fun k hk => by omega⟩

set_option maxHeartbeats 400000 in
theorem search_calls (b cap : Nat) (ls : List Ln) (item : Int) (w : World) (hr : Rising ls) (hl : ls.length ≤ 64) (hat : LnAt w b ls) :
    Calls Try.prog 48 #[.slice (some ⟨b, 0, none⟩) ls.length cap, .int .u16 item, .func (.func 49) #[] #[]] w fun e w' =>
      e = .returned (.tuple #[.int .i64 (lower ls item), .bool (foundAt ls item)]) ∧ Below w.heap.size w w' := by
  go_enter Try.func48, Try.ntmps48
  go_wp2
  go_loopw [9, 10, 11] (fun vi vj vh wr => ∃ i j : Nat, i ≤ j ∧ j ≤ ls.length ∧ vi = .int .i64 i ∧ vj = .int .i64 j ∧ Below w.heap.size w wr ∧
      (∀ k (hk : k < ls.length), k < i → ls[k].item < item) ∧ (∀ (hk : j < ls.length), item ≤ ls[j].item)) (fun vi vj _ _ => (intOf vj - intOf vi).toNat)
  case atStart => exact ⟨0, ls.length, Nat.zero_le _, Nat.le_refl _, rfl, rfl, Below.refl _ _, fun k hk h => by omega, fun h => by omega⟩
  case round =>
    obtain ⟨i, j, hij, hj, rfl, rfl, hbw, hlo, hhi⟩ := hrel
    have hat' := hat.below hbw
    by_cases hlt : i < j
    · have hc := hat' ((i + j) / 2) (by omega)
      obtain ⟨hc0, hc1, hc2⟩ := hc
      clear hat hat'
      have hm : (i + j) / 2 < ls.length := by omega
      by_cases hless : ls[(i + j) / 2].item < item
      · have h3 : cmp3 ls[(i + j) / 2].item item < 0 := by unfold cmp3; rw [if_pos hless]; omega
        have HLo := Lib.hid hlo
        have HHi := Lib.hid hhi
        have HR := Lib.hid hr
        clear hlo hhi hr
        go_wp2_with (go_at_call 49; refine (place1_calls ⟨_, _, _⟩ _ _).mono ?_; rintro e w' ⟨rfl, hb1⟩)
        go_roundw
        case rel => 
          refine ⟨(i + j) / 2 + 1, j, by omega, hj, by go_num, rfl, hbw.trans (hb1.mono hbw.size), fun k hk h => ?_, HHi.out⟩
          rcases Nat.lt_or_ge k ((i + j) / 2) with hk2 | hk2
          · have := rising_get HR.out hk2 hm; omega
          · have : k = (i + j) / 2 := by omega
            subst this; exact hless
        case measure => simp [intOf]; omega
      · have h3 : 0 ≤ cmp3 ls[(i + j) / 2].item item := by unfold cmp3; rw [if_neg hless]; split <;> omega
        have HLo := Lib.hid hlo
        have HHi := Lib.hid hhi
        have HR := Lib.hid hr
        clear hlo hhi hr
        go_wp2_with (go_at_call 49; refine (place1_calls ⟨_, _, _⟩ _ _).mono ?_; rintro e w' ⟨rfl, hb1⟩)
        go_roundw
        case rel => exact ⟨i, (i + j) / 2, by omega, by omega, rfl, by go_num, hbw.trans (hb1.mono hbw.size), HLo.out, fun _ => by omega⟩
        case measure => simp [intOf]; omega
    · have hij' : i = j := by omega
      subst hij'
      have hlow := lower_unique ls item i hj hlo hhi
      have HLow := Lib.hid hlow
      clear hlow hlo hhi
      by_cases hin : i < ls.length
      · have hc := hat' i hin
        obtain ⟨hc0, hc1, hc2⟩ := hc
        clear hat hat' hr
        go_wp2_with (go_at_call 49; refine (place1_calls ⟨_, _, _⟩ _ _).mono ?_; rintro e w' ⟨rfl, hb1⟩)
        go_ret2
        exact ⟨ret2 (val_int (by rw [HLow.out])) (val_bool (found_in HLow.out hin)), hbw.trans (hb1.mono hbw.size)⟩
      · clear hat hat' hr
        go_wp2
        go_ret2
        exact ⟨ret2 (val_int (by rw [HLow.out])) (val_bool (found_out HLow.out hin)), hbw⟩
end Go.Proofs.Ytlejhnigbmgbpaa
