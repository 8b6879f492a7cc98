import Derived.Test.YtlejhnigbmgbpaaW14
import Derived.BigRegion
namespace Go.Proofs.Ytlejhnigbmgbpaa
open Go.RowKit Go.Lamp

/-! Insertion, on lists. -/
def swapAt (ls : List Ln) (j : Nat) (hj : 0 < j) (hl : j < ls.length) : List Ln := (ls.set j ls[j - 1]).set (j - 1) ls[j]
theorem swapAt_length (ls : List Ln) (j : Nat) (hj : 0 < j) (hl : j < ls.length) : (swapAt ls j hj hl).length = ls.length := by simp [swapAt]
theorem swapAt_get (ls : List Ln) (j : Nat) (hj : 0 < j) (hl : j < ls.length) (k : Nat) (hk : k < ls.length) :
    (swapAt ls j hj hl)[k]'(by rw [swapAt_length]; exact hk) = if k = j - 1 then ls[j] else if k = j then ls[j - 1] else ls[k] := by
  unfold swapAt
  rw [List.getElem_set]
  split
  · rename_i h; rw [if_pos h.symm]
  · rename_i h
    rw [if_neg (fun e => h e.symm), List.getElem_set]
    split
    · rename_i h2; rw [if_pos h2.symm]
    · rename_i h2; rw [if_neg (fun e => h2 e.symm)]
theorem swapAt_perm (ls : List Ln) (j : Nat) (hj : 0 < j) (hl : j < ls.length) : (swapAt ls j hj hl).Perm ls := by
  unfold swapAt
  exact List.set_set_perm (by omega) (by omega)

/-- In the midst of an insertion: the first i + 1 are in order, but for the one at j, which is no more than those behind it. -/
structure Mid (ls : List Ln) (i j : Nat) : Prop where
  le : j ≤ i
  lt : i < ls.length
  others : ∀ p q (hp : p < ls.length) (hq : q < ls.length), p < q → q ≤ i → p ≠ j → q ≠ j → ls[p].item ≤ ls[q].item
  own : ∀ q (hq : q < ls.length) (hj : j < ls.length), j < q → q ≤ i → ls[j].item ≤ ls[q].item
def SortedTo (ls : List Ln) (i : Nat) : Prop := ∀ p q (hp : p < ls.length) (hq : q < ls.length), p < q → q < i → ls[p].item ≤ ls[q].item
theorem SortedTo.mid {ls : List Ln} {i : Nat} (h : SortedTo ls i) (hi : i < ls.length) : Mid ls i i :=
  ⟨Nat.le_refl _, hi, fun p q hp hq hpq hqi hpj hqj => h p q hp hq hpq (by omega), fun q hq hj h1 h2 => by omega⟩
theorem Mid.done {ls : List Ln} {i j : Nat} (h : Mid ls i j) (hd : j = 0 ∨ ∃ (hj : 0 < j) (hl : j < ls.length), ¬ ls[j].item < ls[j - 1].item) : SortedTo ls (i + 1) := by
  intro p q hp hq hpq hqi
  by_cases hpj : p = j
  · subst hpj; exact h.own q hq hp hpq (by omega)
  · by_cases hqj : q = j
    · subst hqj
      rcases hd with hd | ⟨hj, hl, hd⟩
      · omega
      · have h1 : ls[q - 1].item ≤ ls[q].item := by omega
        by_cases hp1 : p = q - 1
        · subst hp1; exact h1
        · have := h.others p (q - 1) hp (by omega) (by omega) (by omega) (by omega) (by omega)
          omega
    · exact h.others p q hp hq hpq (by omega) hpj hqj
theorem Mid.swap {ls : List Ln} {i j : Nat} (h : Mid ls i j) (hj : 0 < j) (hl : j < ls.length) (hlt : ls[j].item < ls[j - 1].item) : Mid (swapAt ls j hj hl) i (j - 1) := by
  have hle := h.le
  have hilt := h.lt
  refine ⟨by omega, by rw [swapAt_length]; exact hilt, ?_, ?_⟩
  · intro p q hp hq hpq hqi hpj hqj
    rw [swapAt_length] at hp hq
    rw [swapAt_get ls j hj hl p hp, swapAt_get ls j hj hl q hq, if_neg hpj, if_neg hqj]
    by_cases h1 : p = j
    · rw [if_pos h1, if_neg (by omega)]
      exact h.others (j - 1) q (by omega) hq (by omega) hqi (by omega) (by omega)
    · rw [if_neg h1]
      by_cases h2 : q = j
      · rw [if_pos h2]
        exact h.others p (j - 1) hp (by omega) (by omega) (by omega) h1 (by omega)
      · rw [if_neg h2]
        exact h.others p q hp hq hpq hqi h1 h2
  · intro q hq hj1 hjq hqi
    rw [swapAt_length] at hq
    rw [swapAt_get ls j hj hl (j - 1) (by omega), swapAt_get ls j hj hl q hq, if_pos rfl, if_neg (by omega)]
    by_cases h2 : q = j
    · rw [if_pos h2]; omega
    · rw [if_neg h2]
      exact h.own q hq hl (by omega) hqi
theorem SortedTo.pairwise {ls : List Ln} (h : SortedTo ls ls.length) : ls.Pairwise (fun a b => a.item ≤ b.item) := by
  rw [List.pairwise_iff_getElem]
  intro i j hi hj hij
  exact h i j hi hj hij hj

/-- The cells behind an exchange. -/
theorem swap_cells {cur : Array Value} {ls : List Ln} {n : Nat} (hn : n = ls.length) (htake : cur.toList.take (n * 3) = flat Ln.cells ls) (j : Nat) (hj : 0 < j) (hl : j < ls.length) :
    ((((((cur.setIfInBounds (j * 3) (.int .u16 ls[j - 1].item)).setIfInBounds (j * 3 + 1) (.int .u16 ls[j - 1].loc)).setIfInBounds (j * 3 + 2) (.int .i64 ls[j - 1].qty)).setIfInBounds ((j - 1) * 3) (.int .u16 ls[j].item)).setIfInBounds ((j - 1) * 3 + 1) (.int .u16 ls[j].loc)).setIfInBounds ((j - 1) * 3 + 2) (.int .i64 ls[j].qty)).toList.take (n * 3) = flat Ln.cells (swapAt ls j hj hl) := by
  simp only [Array.toList_setIfInBounds, List.take_set, htake]
  rw [flat_set3 Ln.cells_length ls j hl _ _ _ ls[j - 1] rfl]
  rw [flat_set3 Ln.cells_length (ls.set j ls[j - 1]) (j - 1) (by simp; omega) _ _ _ ls[j] rfl]
  rfl

set_option maxRecDepth 100000 in
set_option maxHeartbeats 400000 in
theorem len64_calls (x : Int) (w : World) (h0 : 0 ≤ x) (h : x < 256) : Calls Try.prog 66 #[.int .u64 x] w fun e w' => (∃ r : Int, e = .returned (.int .i64 r)) ∧ w = w' := by
  go_enter Try.func66, Try.ntmps66
  go_wp2
  go_ret
  exact ⟨⟨_, rfl⟩, rfl⟩

set_option maxRecDepth 100000 in
set_option maxHeartbeats 400000 in
theorem len_calls (x : Int) (w : World) (h0 : 0 ≤ x) (h : x < 256) : Calls Try.prog 56 #[.int .u64 x] w fun e w' => (∃ r : Int, e = .returned (.int .i64 r)) ∧ w = w' := by
  go_enter Try.func56, Try.ntmps56
  go_wp2_with (go_at_call 66; refine (len64_calls _ _ h0 h).mono ?_; rintro e w' ⟨⟨r, rfl⟩, rfl⟩)
  go_ret
  exact ⟨⟨_, rfl⟩, rfl⟩

/-- A row that reads as lines in order, out of those that it read. -/
def SortedRow (W : World) (R : HProp) (g cap : Nat) (ls : List Ln) (w' : World) : Prop :=
  ∃ ls' : List Ln, ls'.Perm ls ∧ ls'.Pairwise (fun a b => a.item ≤ b.item) ∧ Sat W w' (Row 50 3 (.slice (some ⟨g, 0, none⟩) ls.length cap) ls.length (flat Ln.cells ls') * R)

set_option maxRecDepth 100000 in
set_option maxHeartbeats 1000000 in
theorem insertion_calls {W w : World} {R : HProp} (g cap : Nat) (ls : List Ln) (cur : Array Value) (hn : ls.length ≤ 12) (hcap : ls.length ≤ cap) (hmax : cap ≤ maxLen) (hcs : cur.size = cap * 3)
    (htake : cur.toList.take (ls.length * 3) = flat Ln.cells ls) (hs : Sat W w (blk g (.cells cur 50 (0, 0)) * R)) :
    Calls Try.prog 57 #[.slice (some ⟨g, 0, none⟩) ls.length cap, .int .i64 0, .int .i64 ls.length, .func (.func 43) #[] #[]] w fun e w' =>
      e = .returned (.tuple #[]) ∧ SortedRow W R g cap ls w' := by
  generalize hnl : ls.length = n at *
  have HN := Lib.hid hnl
  have HMax := Lib.hid hmax
  have HCS := Lib.hid hcs
  have HT := Lib.hid htake
  clear hnl hmax hcs htake
  go_enter Try.func57, Try.ntmps57
  go_wp2_with fail
  go_loopw [8, 9] (fun vi _ wr => ∃ i : Nat, ∃ ms : List Ln, ∃ c : Array Value, 1 ≤ i ∧ vi = .int .i64 i ∧ Hid (ms.length = n ∧ ms.Perm ls ∧ SortedTo ms i ∧ c.size = cap * 3 ∧ c.toList.take (n * 3) = flat Ln.cells ms) ∧ Sat W wr (blk g (.cells c 50 (0, 0)) * R)) (fun vi _ _ => (n - intOf vi).toNat)
  case atStart => exact ⟨1, ls, cur, Nat.le_refl _, rfl, ⟨HN.out, List.Perm.refl _, fun p q hp hq h1 h2 => by omega, HCS.out, HT.out⟩, hs⟩
  case round =>
    obtain ⟨i, ms, c, hi1, rfl, hm, hsr⟩ := hrel
    by_cases hlt : i < n
    · go_wp2_with fail
      obtain ⟨wo, rfl⟩ : ∃ wo : World, wo = wr := ⟨_, rfl⟩
      go_loopw [9] (fun vj wr2 => ∃ j : Nat, ∃ ms2 : List Ln, ∃ c2 : Array Value, vj = .int .i64 j ∧ j ≤ i ∧ Hid (ms2.length = n ∧ ms2.Perm ls ∧ Mid ms2 i j ∧ c2.size = cap * 3 ∧ c2.toList.take (n * 3) = flat Ln.cells ms2) ∧ Sat W wr2 (blk g (.cells c2 50 (0, 0)) * R)) (fun vj _ => (intOf vj).toNat)
      case atStart => exact ⟨i, ms, c, rfl, Nat.le_refl _, ⟨hm.1, hm.2.1, hm.2.2.1.mid (by rw [hm.1]; exact hlt), hm.2.2.2⟩, hsr⟩
      case round =>
        obtain ⟨j, ms2, c2, rfl, hji, hm2, hsr2⟩ := hrel
        by_cases hj : 0 < j
        · have hj1 : (0 : Int) < j := by omega
          have hjn : j < n := by omega
          have k1 : (j : Int) < n := by omega
          have k2 : (0 : Int) ≤ j := by omega
          have k3 : (0 : Int) ≤ (j : Int) - 1 := by omega
          have k4 : (j : Int) - 1 < n := by omega
          have k5 : ((j : Int) - 1).toNat = j - 1 := by omega
          have k6 : ((j - 1 : Nat) : Int) = (j : Int) - 1 := by omega
          have hcell : ∀ k (hk : k < ms2.length), ∀ q (hq : q < 3), wr.cell? ⟨g, k * 3 + q, none⟩ = (Ln.cells ms2[k])[q]? := by
            intro k hk q hq
            have h2 := flat_get Ln.cells_length ms2 k q hk hq
            rw [hsr2.cell, ← h2, ← hm2.2.2.2.2, List.getElem?_take, if_pos (by have := hm2.1; omega)]
            simp
          have hl := hm2.1
          have hjl : j < ms2.length := by rw [hl]; exact hjn
          have a0 := hcell j hjl 0 (by omega)
          have a1 := hcell j hjl 1 (by omega)
          have a2 := hcell j hjl 2 (by omega)
          have b0 := hcell (j - 1) (by omega) 0 (by omega)
          have b1 := hcell (j - 1) (by omega) 1 (by omega)
          have b2 := hcell (j - 1) (by omega) 2 (by omega)
          simp only [Ln.cells, Nat.add_zero, List.getElem?_cons_zero, List.getElem?_cons_succ] at a0 a1 a2 b0 b1 b2
          have hfr : ∀ q, wr.frozen? ⟨g, q, none⟩ = false := fun q => hsr2.free
          generalize hx : ms2[j] = x at *
          generalize hy : ms2[j - 1]'(by omega) = y at *
          have HX := Lib.hid hx
          have HY := Lib.hid hy
          have HL := Lib.hid hl
          clear hx hy hcell
          have k7 : (1 : Int) ≤ j := by omega
          have k8 : (j : Int) < n + 1 := by omega
          have k9 : 1 ≤ j := hj
          have k10 : (j : Int) ≤ n := by omega
          have k11 : j ≤ n := by omega
          have k12 : j < n + 1 := by omega
          have kw : IntKind.i64.wrap ((j : Int) - 1) = (j : Int) - 1 := by rw [IntKind.wrap_i64]; omega
          go_wp2_with fail
          go_still_tail 14, (by kernel_rfl)
          change wpList _ _ _ _ _ wr.drew
          generalize hwd : wr.drew = wd
          have hsd : Sat W wd (blk g (.cells c2 50 (0, 0)) * R) := by rw [← hwd]; exact hsr2.drew
          clear kw hwd
          go_wp2_with fail
          refine (sorted1_calls x y wd).mono ?_
          rintro e w1 ⟨rfl, hb1⟩
          have hs1 := hsd.below hb1
          by_cases hless : x.item < y.item
          · have hc3 : cmp3 x.item y.item < 0 := by unfold cmp3; rw [if_pos hless]; omega
            have hcell : ∀ k (hk : k < ms2.length), ∀ q (hq : q < 3), w1.cell? ⟨g, k * 3 + q, none⟩ = (Ln.cells ms2[k])[q]? := by
              intro k hk q hq
              have h2 := flat_get Ln.cells_length ms2 k q hk hq
              rw [hs1.cell, ← h2, ← hm2.2.2.2.2, List.getElem?_take, if_pos (by have := hm2.1; omega)]
              simp
            have d0 := hcell j hjl 0 (by omega)
            have d1 := hcell j hjl 1 (by omega)
            have d2 := hcell j hjl 2 (by omega)
            have e0 := hcell (j - 1) (by omega) 0 (by omega)
            have e1 := hcell (j - 1) (by omega) 1 (by omega)
            have e2 := hcell (j - 1) (by omega) 2 (by omega)
            rw [HX.out] at d0 d1 d2
            rw [HY.out] at e0 e1 e2
            simp only [Ln.cells, Nat.add_zero, List.getElem?_cons_zero, List.getElem?_cons_succ] at d0 d1 d2 e0 e1 e2
            have hfr1 : ∀ q, w1.frozen? ⟨g, q, none⟩ = false := fun q => hs1.free
            clear hcell a0 a1 a2 b0 b1 b2 hfr hb1
            go_wp2_with fail
            go_region
            have hs6 := ((((((hs1.setCell (i := j * 3) (.int .u16 y.item)).setCell (i := j * 3 + 1) (.int .u16 y.loc)).setCell (i := j * 3 + 2) (.int .i64 y.qty)).setCell (i := (j - 1) * 3) (.int .u16 x.item)).setCell (i := (j - 1) * 3 + 1) (.int .u16 x.loc)).setCell (i := (j - 1) * 3 + 2) (.int .i64 x.qty)).drew
            have HS6 := Lib.hid hs6
            have hsw := swap_cells (n := n) hm2.1.symm hm2.2.2.2.2 j hj hjl
            rw [HX.out, HY.out] at hsw
            have HSw := Lib.hid hsw
            have hmid : Hid (Mid (swapAt ms2 j hj hjl) i (j - 1)) := hm2.2.2.1.swap hj hjl (by rw [HX.out, HY.out]; exact hless)
            clear hs6 hsw d0 d1 d2 e0 e1 e2 hfr1
            go_wp2_with fail
            go_roundw
            case rel => exact ⟨j - 1, swapAt ms2 j hj hjl, _, by rw [k6], by omega, ⟨by rw [swapAt_length]; exact hm2.1, (swapAt_perm ms2 j hj hjl).trans hm2.2.1, hmid.out, by simpa using hm2.2.2.2.1, HSw.out⟩, HS6.out⟩
            case measure => simp [intOf]; omega
          · have hc3 : 0 ≤ cmp3 x.item y.item := by unfold cmp3; rw [if_neg hless]; split <;> omega
            have hdone : SortedTo ms2 (i + 1) := hm2.2.2.1.done (.inr ⟨hj, hjl, by rw [HX.out, HY.out]; exact hless⟩)
            have HD : Hid (SortedTo ms2 (i + 1)) := hdone
            clear hdone
            go_wp2_with fail
            go_roundw
            case rel => exact ⟨i + 1, ms2, c2, by omega, by go_num, ⟨hm2.1, hm2.2.1, HD.out, hm2.2.2.2⟩, hs1⟩
            case measure => simp [intOf]; omega
        · obtain rfl : j = 0 := by omega
          have hdone : Hid (SortedTo ms2 (i + 1)) := hm2.2.2.1.done (.inl rfl)
          go_wp2_with fail
          go_quiet (fail)
          go_wp2_with fail
          go_roundw
          case rel => exact ⟨i + 1, ms2, c2, by omega, by go_num, ⟨hm2.1, hm2.2.1, hdone.out, hm2.2.2.2⟩, hsr2.drewN _⟩
          case measure => simp [intOf]; omega
    · go_wp2_with fail
      go_end0
      obtain ⟨q1, q2, q3, q4, q5⟩ := hm.out
      refine ⟨rfl, ms, q2, SortedTo.pairwise (by rw [q1]; exact fun p q hp hq h1 h2 => q3 p q hp hq h1 (by omega)), ?_⟩
      have := hsr.row_mk (n := n) (size := 3) hcap HMax.out q4
      rw [q5] at this
      rw [HN.out]
      exact this
end Go.Proofs.Ytlejhnigbmgbpaa
