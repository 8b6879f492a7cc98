import Derived.Test.YtlejhnigbmgbpaaW16
namespace Go.Proofs.Ytlejhnigbmgbpaa
open Go.RowKit Go.Lamp

/-! Lines that may be needed: each of one at least, no item twice; by rising items. -/
def okLines (ls : List Ln) : Bool := ls.all (fun l => decide (1 ≤ l.qty)) && decide ((ls.map (·.item)).Nodup)
def sortLn (ls : List Ln) : List Ln := ls.mergeSort (fun a b => decide (a.item ≤ b.item))
theorem sortLn_perm (ls : List Ln) : (sortLn ls).Perm ls := List.mergeSort_perm ls _
theorem sortLn_sorted (ls : List Ln) : (sortLn ls).Pairwise (fun a b => a.item ≤ b.item) := by
  have := List.pairwise_mergeSort (le := fun (a b : Ln) => decide (a.item ≤ b.item)) (fun a b c h1 h2 => by simp at *; omega) (fun a b => by simp; omega) ls
  exact this.imp (fun h => by simpa using h)
theorem okLines_perm {ls ms : List Ln} (h : ls.Perm ms) : okLines ls = okLines ms := by
  unfold okLines
  have h2 : (ls.map (·.item)).Nodup ↔ (ms.map (·.item)).Nodup := (h.map _).nodup_iff
  rw [show ls.all (fun l => decide (1 ≤ l.qty)) = ms.all (fun l => decide (1 ≤ l.qty)) from ?_]
  · simp only [h2]
  · rw [Bool.eq_iff_iff]
    simp only [List.all_eq_true]
    exact ⟨fun hh x hx => hh x (h.mem_iff.2 hx), fun hh x hx => hh x (h.mem_iff.1 hx)⟩
theorem rising_of_sorted {ls : List Ln} (h : ls.Pairwise (fun a b => a.item ≤ b.item)) (hd : (ls.map (·.item)).Nodup) : Rising ls := by
  unfold Rising
  rw [List.pairwise_iff_getElem] at *
  intro i j hi hj hij
  have h1 := h i j hi hj hij
  have h2 : ls[i].item ≠ ls[j].item := by
    intro e
    have := (List.getElem_inj (xs := ls.map (·.item)) (i := i) (j := j) (h₀ := by simpa using hi) (h₁ := by simpa using hj) hd).1 (by simpa using e)
    omega
  omega
theorem rising_nodup {ls : List Ln} (h : Rising ls) : (ls.map (·.item)).Nodup := by
  unfold Rising at h
  rw [List.Nodup, List.pairwise_map]
  exact h.imp (fun h e => by omega)
theorem rising_unique {ls ms : List Ln} (h : ls.Perm ms) (h1 : Rising ls) (h2 : Rising ms) : ls = ms :=
  h.eq_of_pairwise (le := fun a b => a.item < b.item) (fun a b _ _ h3 h4 => by omega) (show ls.Pairwise (fun a b => a.item < b.item) from h1) (show ms.Pairwise (fun a b => a.item < b.item) from h2)
theorem sorted_eq {ls ls' : List Ln} (h : ls'.Perm ls) (hp : ls'.Pairwise (fun a b => a.item ≤ b.item)) (hok : okLines ls = true) : ls' = sortLn ls := by
  have hd : (ls.map (·.item)).Nodup := by unfold okLines at hok; simp at hok; exact hok.2
  refine rising_unique (h.trans (sortLn_perm ls).symm) (rising_of_sorted hp ?_) (rising_of_sorted (sortLn_sorted ls) ?_)
  · exact ((h.map _).nodup_iff).2 hd
  · exact (((sortLn_perm ls).map _).nodup_iff).2 hd
def goodAt (ls : List Ln) (k : Nat) : Prop := ∀ (hk : k < ls.length), 1 ≤ ls[k].qty ∧ (∀ (h0 : 0 < k), ls[k - 1].item ≠ ls[k].item)
theorem ok_of_good {ls : List Ln} (hp : ls.Pairwise (fun a b => a.item ≤ b.item)) (h : ∀ k, k < ls.length → goodAt ls k) : okLines ls = true := by
  have hr : Rising ls := by
    unfold Rising
    have hstep : ∀ d i (hd : i + d + 1 < ls.length), ls[i].item < ls[i + d + 1].item := by
      intro d
      induction d with
      | zero =>
        intro i hd
        have h1 := (h (i + 1) hd hd).2 (by omega)
        rw [List.pairwise_iff_getElem] at hp
        have h2 := hp i (i + 1) (by omega) hd (by omega)
        simp only [Nat.add_sub_cancel] at h1
        simp only [Nat.add_zero]
        omega
      | succ d ih =>
        intro i hd
        have h1 := ih i (by omega)
        have h2 := (h (i + d + 1 + 1) hd hd).2 (by omega)
        rw [List.pairwise_iff_getElem] at hp
        have h3 := hp (i + d + 1) (i + d + 1 + 1) (by omega) hd (by omega)
        simp only [Nat.add_sub_cancel] at h2
        have e : i + (d + 1) + 1 = i + d + 1 + 1 := by omega
        simp only [e]
        omega
    rw [List.pairwise_iff_getElem]
    intro i j hi hj hij
    have := hstep (j - i - 1) i (by omega)
    have e : i + (j - i - 1) + 1 = j := by omega
    simpa only [e] using this
  unfold okLines
  rw [Bool.and_eq_true]
  refine ⟨?_, by simpa using rising_nodup hr⟩
  rw [List.all_eq_true]
  intro x hx
  obtain ⟨k, hk, rfl⟩ := List.getElem_of_mem hx
  simpa using (h k hk hk).1
theorem bad_qty {ls : List Ln} {k : Nat} (hk : k < ls.length) (h : ls[k].qty < 1) : okLines ls = false := by
  unfold okLines
  rw [Bool.and_eq_false_iff]
  left
  rw [List.all_eq_false]
  exact ⟨ls[k], List.getElem_mem hk, by simp; omega⟩
theorem bad_twice {ls : List Ln} {k : Nat} (hk : k < ls.length) (h0 : 0 < k) (h : ls[k - 1].item = ls[k].item) : okLines ls = false := by
  unfold okLines
  rw [Bool.and_eq_false_iff]
  right
  simp only [decide_eq_false_iff_not]
  intro hd
  have := (List.getElem_inj (xs := ls.map (·.item)) (i := k - 1) (j := k) (h₀ := by simp; omega) (h₁ := by simpa using hk) hd).1 (by simpa using h)
  omega

/-- What 'sorted' hands back. -/
def SortedPost (W : World) (R : HProp) (ls : List Ln) (en : Ending) (w' : World) : Prop :=
  (okLines ls = false ∧ en = .returned (.tuple #[.slice none 0 0, .bool false]) ∧ Sat W w' R) ∨
  (okLines ls = true ∧ ∃ g cap, en = .returned (.tuple #[.slice (Option.map (fun b => ⟨b, 0, none⟩) g) ls.length cap, .bool true]) ∧ Sat W w' (Row 50 3 (.slice (Option.map (fun b => ⟨b, 0, none⟩) g) ls.length cap) ls.length (flat Ln.cells (sortLn ls)) * R))

set_option maxRecDepth 100000 in
set_option maxHeartbeats 1000000 in
theorem sorted_calls {W w : World} {R : HProp} (a : Option Addr) (n cap : Nat) (ls : List Ln) (hn : ls.length ≤ 12) (hs : Sat W w R) (hI : LnsBelow w.heap.size w (.slice a n cap) ls) :
    Calls Try.prog 32 #[.slice a n cap] w (SortedPost W R ls) := by
  have hb0 : Below w.heap.size w (w.alloc (.cells #[.slice a n cap] 37)) := (Below.refl _ w).alloc (Nat.le_refl _) _
  have hI2 : LnsBelow (w.alloc (.cells #[.slice a n cap] 37)).heap.size (w.alloc (.cells #[.slice a n cap] 37)) (.slice a n cap) ls := by
    rcases hI.below hb0 with h | ⟨b, c, h1, h2, h3⟩
    · exact .inl h
    · exact .inr ⟨b, c, h1, by simp; omega, h3⟩
  have HS := Lib.hid (sortedFunc_calls (R := R) w.heap.size (.slice a n cap) ls hn (hs.alloc_keep (.cells #[.slice a n cap] 37)) (by simp) hI2)
  have HN := Lib.hid hn
  clear hb0 hI2 hI hn
  go_enter Try.func32, Try.ntmps32
  go_wp2_with fail
  refine (values_calls a n cap w).mono ?_
  rintro e w1 ⟨rfl, rfl⟩
  go_wp2_with fail
  refine HS.out.mono ?_
  rintro e w1 ⟨v, ls', rfl, hperm, hpw, hs1, hnil⟩
  have HPerm := Lib.hid hperm
  have HPw := Lib.hid hpw
  have HNil := Lib.hid hnil
  have hlen : ls'.length = ls.length := hperm.length_eq
  have HLen := Lib.hid hlen
  rw [← hlen] at hs1
  obtain ⟨b, cap', _, hv, hcap, hmax, hat⟩ := LnAt.of_row hs1
  have HAt : Hid (LnAt w1 b ls') := hat
  have h12 : ls'.length ≤ 12 := by rw [hlen]; exact HN.out
  clear hperm hpw hnil hlen hat
  rcases hv with rfl | ⟨rfl, h0⟩
  · go_wp2_with fail
    go_loopw [5, 6, 12] (fun _ _ vi wr => ∃ i : Nat, i ≤ ls'.length ∧ vi = .int .i64 i ∧ Hid (∀ k, k < i → goodAt ls' k) ∧ Below w1.heap.size w1 wr) (fun _ _ vi _ => (ls'.length - intOf vi).toNat)
    case atStart => exact ⟨0, Nat.zero_le _, rfl, fun k hk => by omega, Below.refl _ _⟩
    case round =>
      obtain ⟨i, hi, rfl, hgood, hbw⟩ := hrel
      by_cases hlt : i < ls'.length
      · have hatr := LnAt.below HAt.out hbw
        obtain ⟨a0, a1, a2⟩ := hatr i hlt
        have hblt := World.block_lt_of_cell? wr _ a0
        simp only at hblt
        by_cases c1 : ls'[i].qty < 1
        · have c1b : decide (ls'[i].qty < 1) = true := by simpa using c1
          have HBad : Hid (okLines ls' = false) := bad_qty hlt c1
          clear hatr
          go_wp2_with fail
          go_quiet (fail)
          go_wp2_with fail
          go_ret2
          exact .inl ⟨by rw [← okLines_perm HPerm.out]; exact HBad.out, rfl, ((hs1.right.below hbw).alloc_keep _).drewN _⟩
        · have c1b : decide (ls'[i].qty < 1) = false := by simpa using c1
          by_cases c2 : 0 < i
          · have d1 : decide ((0 : Int) < i) = true := by simp; omega
            have c2' : (0 : Int) < i := by omega
            have k1 : (1 : Int) ≤ i := by omega
            have k2 : (i : Int) - 1 < ls'.length := by omega
            have k3 : (0 : Int) ≤ (i : Int) - 1 := by omega
            have k4 : ((i : Int) - 1).toNat = i - 1 := by omega
            have k5 : (i : Int) < ls'.length + 1 := by omega
            have k6 : (i : Int) ≤ ls'.length := by omega
            have k7 : i < ls'.length + 1 := by omega
            have k8 : 1 ≤ i := by omega
            obtain ⟨b0, b1, b2⟩ := hatr (i - 1) (by omega)
            by_cases c3 : ls'[i - 1].item = ls'[i].item
            · have HBad : Hid (okLines ls' = false) := bad_twice hlt c2 c3
              have c3b : (ls'[i - 1].item == ls'[i].item) = true := by simpa using c3
              have HC3 := Lib.hid c3
              have kw : IntKind.i64.wrap ((i : Int) - 1) = (i : Int) - 1 := by rw [IntKind.wrap_i64]; omega
              clear hatr c3
              go_wp2_with fail
              go_quiet (fail)
              clear kw
              go_wp2_with fail
              go_ret2
              exact .inl ⟨by rw [← okLines_perm HPerm.out]; exact HBad.out, rfl, ((hs1.right.below hbw).alloc_keep _).drewN _⟩
            · have HG : Hid (goodAt ls' i) := fun hk => ⟨by omega, fun _ => c3⟩
              have c3b : (ls'[i - 1].item == ls'[i].item) = false := by simpa using c3
              have kw : IntKind.i64.wrap ((i : Int) - 1) = (i : Int) - 1 := by rw [IntKind.wrap_i64]; omega
              clear hatr
              go_wp2_with fail
              go_quiet (fail)
              clear kw
              go_wp2_with fail
              go_roundw
              case rel =>
                refine ⟨i + 1, by omega, by go_num, fun k hk => ?_, (hbw.alloc hbw.size _).trans ⟨rfl, rfl, rfl, Nat.le_refl _, fun _ _ => rfl⟩⟩
                rcases Nat.lt_or_ge k i with h | h
                · exact hgood.out k h
                · have : k = i := by omega
                  subst this; exact HG.out
              case measure => simp [intOf]; omega
          · have HG : Hid (goodAt ls' i) := fun hk => ⟨by omega, fun h => absurd h c2⟩
            have d1 : decide ((0 : Int) < i) = false := by simp; omega
            have d2 : decide (0 < i) = false := by simp; omega
            clear c1
            clear hatr
            go_wp2_with fail
            go_quiet (fail)
            go_wp2_with fail
            go_roundw
            case rel =>
              refine ⟨i + 1, by omega, by go_num, fun k hk => ?_, (hbw.alloc hbw.size _).trans ⟨rfl, rfl, rfl, Nat.le_refl _, fun _ _ => rfl⟩⟩
              have : k = i := by omega
              subst this; exact HG.out
            case measure => simp [intOf]; omega
      · have HOk : Hid (okLines ls = true) := by
          unfold Hid
          rw [← okLines_perm HPerm.out]
          exact ok_of_good HPw.out (fun k hk => hgood.out k (by omega))
        have HEq : Hid (ls' = sortLn ls) := sorted_eq HPerm.out HPw.out HOk.out
        go_wp2_with fail
        go_ret2
        refine .inr ⟨HOk.out, some b, cap', by rw [HLen.out]; rfl, ?_⟩
        rw [← HEq.out]
        have h2 := hs1.below hbw
        rw [HLen.out] at h2
        exact h2
  · have hz : ls' = [] := List.eq_nil_of_length_eq_zero h0
    have hz2 : ls = [] := by have := HLen.out; rw [hz] at this; exact List.eq_nil_of_length_eq_zero this.symm
    subst hz2
    subst hz
    go_wp2_with fail
    go_loopw [5, 6, 12] (fun _ _ vi wr => vi = .int .i64 0 ∧ w1 = wr) (fun _ _ _ _ => 0)
    case atStart => exact ⟨rfl, rfl⟩
    case round =>
      obtain ⟨rfl, rfl⟩ := hrel
      go_wp2_with fail
      go_ret2
      exact .inr ⟨rfl, Option.none, 0, rfl, by rw [show sortLn [] = [] by simp [sortLn]]; exact hs1.right.row_nil _ _⟩
end Go.Proofs.Ytlejhnigbmgbpaa
