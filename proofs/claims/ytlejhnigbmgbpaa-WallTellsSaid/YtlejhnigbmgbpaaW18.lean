import Derived.Test.YtlejhnigbmgbpaaW17
namespace Go.Proofs.Ytlejhnigbmgbpaa
open Go.RowKit Go.Lamp

/-! Assign. -/
def firstFree (cubs : List Cub) : Int := firstIdx (fun c => !c.held) cubs
def assignM (cubs : List Cub) (order : Int) (ls : List Ln) : (Int × Int) × List Cub :=
  if 0 ≤ firstIdx (isOf order) cubs then ((0, 8), cubs)
  else if okLines ls = false then ((0, 1), cubs)
  else if firstFree cubs < 0 then ((0, 5), cubs)
  else ((firstFree cubs, 0), cubs.set (firstFree cubs).toNat ⟨true, order, sortLn ls⟩)
theorem firstIdx_bound {α : Type} (f : α → Bool) (l : List α) : -1 ≤ firstIdx f l ∧ firstIdx f l < l.length := by
  unfold firstIdx
  cases h : l.findIdx? f with
  | none => simp; omega
  | some k =>
    have := (List.findIdx?_eq_some_iff_getElem.1 h).1
    simp; omega
theorem firstIdx_nonneg {α : Type} {f : α → Bool} {l : List α} (h : 0 ≤ firstIdx f l) : ∃ k : Nat, ∃ hk : k < l.length, firstIdx f l = k ∧ f l[k] = true ∧ ∀ j (hj : j < l.length), j < k → f l[j] = false := by
  unfold firstIdx at *
  cases h2 : l.findIdx? f with
  | none => rw [h2] at h; simp at h
  | some k =>
    obtain ⟨hk, h3, h4⟩ := List.findIdx?_eq_some_iff_getElem.1 h2
    exact ⟨k, hk, rfl, h3, fun j hj hjk => by simpa using h4 j hjk⟩
theorem assigned_ok {ls : List Ln} (order : Int) (hok : okLines ls = true) (hn : ls.length ≤ 12) (hi : ∀ l ∈ ls, 0 ≤ l.item ∧ l.item ≤ 65535 ∧ l.qty ≤ 9223372036854775807) : (⟨true, order, sortLn ls⟩ : Cub).Ok := by
  have hd : (ls.map (·.item)).Nodup := by unfold okLines at hok; simp at hok; exact hok.2
  have hq : ∀ l ∈ ls, 1 ≤ l.qty := by unfold okLines at hok; simp at hok; exact hok.1
  refine ⟨rising_of_sorted (sortLn_sorted ls) ((((sortLn_perm ls).map _).nodup_iff).2 hd), by rw [(sortLn_perm ls).length_eq]; exact hn, fun l hl => ?_, fun h => by cases h⟩
  have hl' := (sortLn_perm ls).mem_iff.1 hl
  obtain ⟨h1, h2, h3⟩ := hi l hl'
  exact ⟨h1, h2, hq l hl', h3⟩
theorem assignM_ok {cubs : List Cub} (h : WallOk cubs) (order : Int) {ls : List Ln} (hn : ls.length ≤ 12) (hi : ∀ l ∈ ls, 0 ≤ l.item ∧ l.item ≤ 65535 ∧ l.qty ≤ 9223372036854775807) : WallOk (assignM cubs order ls).2 := by
  unfold assignM
  split
  · exact h
  · split
    · exact h
    · split
      · exact h
      · rename_i h1 h2 h3
        exact h.set _ (assigned_ok order (by simpa using h2) hn hi)

set_option maxRecDepth 100000 in
set_option maxHeartbeats 1000000 in
theorem Assign_calls {W w : World} {p : Nat} {cubs : List Cub} {R : HProp} (order : Int) (a : Option Addr) (n cap : Nat) (ls : List Ln) (hn : ls.length ≤ 12) (hi : ∀ l ∈ ls, 0 ≤ l.item ∧ l.item ≤ 65535 ∧ l.qty ≤ 9223372036854775807)
    (hs : Sat W w (WallH p cubs * R)) (hI : LnsBelow w.heap.size w (.slice a n cap) ls) :
    Calls Try.prog 11 #[.pointer (some ⟨p, 0, none⟩), .int .u32 order, .slice a n cap] w (WallPost W p R (assignM cubs order ls).2 (.tuple #[.int .i64 (assignM cubs order ls).1.1, .int .i64 (assignM cubs order ls).1.2])) := by
  have HC := Lib.hid (cubby_calls order hs)
  have HOkw := Lib.hid (fun (h : WallOk cubs) => assignM_ok h order hn hi)
  have HN := Lib.hid hn
  have HI := Lib.hid hI
  clear hn hi hI
  -- what the third call finds
  have hff : ∀ (R' : HProp) (w1 : World), Sat W w1 (WallH p cubs * R') → Calls Try.prog 33 #[.pointer (some ⟨p, 0, none⟩), .func (.func 34) #[] #[]] w1 fun e w' => e = .returned (.int .i64 (firstFree cubs)) ∧ Below w1.heap.size w1 w' := by
    intro R' w1 h1
    obtain ⟨bl, gs, rfl, hok, hb⟩ := WallH.open h1
    refine first_calls 34 #[] (fun c => !c.held) p bl gs w1 (by simpa using hok.2.1) (WallB.top hb) (WallB.at hb) enters_free ?_
    intro c w2 _
    exact free_calls c.1.held c.1.order (CubG.v c) w2
  have HFF := Lib.hid hff
  clear hff
  have hfb := firstIdx_bound (fun c : Cub => !c.held) cubs
  go_enter Try.func11, Try.ntmps11
  go_wp2_with fail
  refine HC.out.mono ?_
  rintro e w1 ⟨rfl, hb1⟩
  have hs1 := hs.below hb1
  have hI1 : LnsBelow w1.heap.size w1 (.slice a n cap) ls := by
    rcases HI.out.below hb1 with h | ⟨b, c, h1, h2, h3⟩
    · exact .inl h
    · exact .inr ⟨b, c, h1, by have := hb1.size; omega, h3⟩
  go_wp2_with fail
  refine (sorted_calls a n cap ls HN.out hs1 hI1).mono ?_
  rintro e w2 (⟨hok, rfl, hs2⟩ | ⟨hok, g, c, rfl, hs2⟩)
  · have HOk := Lib.hid hok
    clear hok
    go_wp2_with fail
    refine (HFF.out R w2 hs2).mono ?_
    rintro e w3 ⟨rfl, hb3⟩
    have hs3 := hs2.below hb3
    unfold cubbyM
    by_cases c1 : 0 ≤ firstIdx (isOf order) cubs
    · have HM : Hid (assignM cubs order ls = ((0, 8), cubs)) := by unfold Hid assignM; rw [if_pos c1]
      go_wp2_with fail
      go_ret2
      rw [HM.out]
      exact ⟨rfl, hs3⟩
    · have HM : Hid (assignM cubs order ls = ((0, 1), cubs)) := by unfold Hid assignM; rw [if_neg c1, if_pos HOk.out]
      go_wp2_with fail
      go_ret2
      rw [HM.out]
      exact ⟨rfl, hs3⟩
  · have HOk := Lib.hid hok
    clear hok
    go_wp2_with fail
    have hs2' := hs2.eq (star_left_comm _ _ _)
    refine (HFF.out _ w2 hs2').mono ?_
    rintro e w3 ⟨rfl, hb3⟩
    have hs3 := hs2'.below hb3
    unfold cubbyM
    by_cases c1 : 0 ≤ firstIdx (isOf order) cubs
    · have HM : Hid (assignM cubs order ls = ((0, 8), cubs)) := by unfold Hid assignM; rw [if_pos c1]
      go_wp2_with fail
      go_ret2
      rw [HM.out]
      exact ⟨rfl, (hs3.eq (star_left_comm _ _ _)).right⟩
    · by_cases c2 : firstFree cubs < 0
      · have HM : Hid (assignM cubs order ls = ((0, 5), cubs)) := by unfold Hid assignM; rw [if_neg c1, if_neg (by rw [HOk.out]; simp), if_pos c2]
        go_wp2_with fail
        go_ret2
        rw [HM.out]
        exact ⟨rfl, (hs3.eq (star_left_comm _ _ _)).right⟩
      · have HM : Hid (assignM cubs order ls = ((firstFree cubs, 0), cubs.set (firstFree cubs).toNat ⟨true, order, sortLn ls⟩)) := by unfold Hid assignM; rw [if_neg c1, if_neg (by rw [HOk.out]; simp), if_neg c2]
        obtain ⟨bl, gs, rfl, hok, hb⟩ := WallH.open hs3
        obtain ⟨k, hk, hfk, hfree, _⟩ := firstIdx_nonneg (f := fun c : Cub => !c.held) (l := gs.map (·.1)) (by unfold firstFree at c2; omega)
        have hfk' : firstFree (gs.map (·.1)) = k := hfk
        have hk' : k < gs.length := by simpa using hk
        have h1 := WallB.top hb
        obtain ⟨hc0, hc1, hc2⟩ := WallB.at hb k hk'
        have hl : gs.length ≤ 16 := by simpa using hok.2.1
        have hrow := WallB.row hb
        have hf0 : ∀ j, w3.frozen? ⟨bl, j, none⟩ = false := fun j => hrow.free
        have f0 := hf0 (k * 3)
        have f1 := hf0 (k * 3 + 1)
        have f2 := hf0 (k * 3 + 2)
        have k1 : (k : Int) < gs.length := by omega
        have k2 : (0 : Int) ≤ k := by omega
        have hlen : (sortLn ls).length = ls.length := (sortLn_perm ls).length_eq
        have HLen := Lib.hid hlen
        have HB := Lib.hid hb
        have HOkW := Lib.hid (HOkw.out hok)
        rw [HM.out] at HOkW
        rw [hfk'] at c2 HM HOkW ⊢
        clear hs hs1 hs2 hs2' hs3 hok hb hrow hf0 hlen hfk hfk' hfree hI1
        go_wp2_with fail
        go_ret2
        rw [HM.out]
        refine ⟨rfl, ?_⟩
        have hz := HB.out
        rw [WallB.split hk', WallRest] at hz
        have hz2 : Sat W w3 (blk bl (.cells (flat CubG.cells gs).toArray 72 (0, 0)) * (Row 50 3 (.slice (Option.map (fun b => ⟨b, 0, none⟩) g) ls.length c) ls.length (flat Ln.cells (sortLn ls)) * (bigs ((gs.map cubRow).eraseIdx k) * (blk p (.cells #[.slice (some ⟨bl, 0, none⟩) gs.length gs.length] 66 (0, 0)) * R)))) :=
          ((hz.eq (star_assoc _ _ _)).right).eq (by ac_rfl)
        have hz3 := (((hz2.setCell (i := k * 3) (.bool true)).setCell (i := k * 3 + 1) (.int .u32 order)).setCell (i := k * 3 + 2) (.slice (Option.map (fun b => ⟨b, 0, none⟩) g) ls.length c))
        have e3 : (((flat CubG.cells gs).toArray.setIfInBounds (k * 3) (.bool true)).setIfInBounds (k * 3 + 1) (.int .u32 order)).setIfInBounds (k * 3 + 2) (.slice (Option.map (fun b => ⟨b, 0, none⟩) g) ls.length c) = (flat CubG.cells (gs.set k (⟨true, order, sortLn ls⟩, g, c))).toArray := by
          rw [← flat_set3 CubG.cells_length gs k hk' (.bool true) (.int .u32 order) (.slice (Option.map (fun b => ⟨b, 0, none⟩) g) ls.length c) (⟨true, order, sortLn ls⟩, g, c) (by simp [CubG.cells, CubG.v, HLen.out])]
          simp
        rw [e3] at hz3
        refine WallH.shut (bl := bl) (gs := gs.set k (⟨true, order, sortLn ls⟩, g, c)) ?_ (by rw [List.map_set, Int.toNat_natCast]) (by simpa using HOkW.out)
        exact WallB.of_parts hk' _ (v := .slice (Option.map (fun b => ⟨b, 0, none⟩) g) ls.length c) (by simp [CubG.v, HLen.out]) (hz3.eq (by rw [star_left_comm]; simp only [HLen.out]; ac_rfl))
end Go.Proofs.Ytlejhnigbmgbpaa
