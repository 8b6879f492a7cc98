import Derived.Test.YtlejhnigbmgbpaaW5
namespace Go.Proofs.Ytlejhnigbmgbpaa
open Go.RowKit Go.Lamp

theorem heldAt_some {cubs : List Cub} {n : Int} {c : Cub} (h : heldAt cubs n = some c) : ∃ k : Nat, ∃ hk : k < cubs.length, n = k ∧ cubs[k] = c ∧ c.held = true := by
  unfold heldAt at h
  split at h
  · rename_i h0
    obtain ⟨k, rfl⟩ := Int.eq_ofNat_of_zero_le h0
    rw [Int.toNat_natCast] at h
    rw [Option.filter_eq_some_iff] at h
    obtain ⟨hk, rfl⟩ := List.getElem?_eq_some_iff.1 h.1
    exact ⟨k, hk, rfl, rfl, h.2⟩
  · cases h

theorem heldG {gs : List CubG} {n : Int} {c : Cub} (h : heldAt (gs.map (·.1)) n = some c) : ∃ k : Nat, ∃ hk : k < gs.length, n = k ∧ gs[k].1 = c ∧ gs[k].1.held = true := by
  obtain ⟨k, hk, h1, h2, h3⟩ := heldAt_some h
  have hk' : k < gs.length := by simpa using hk
  have he : gs[k].1 = c := by simpa using h2
  exact ⟨k, hk', h1, he, by rw [he]; exact h3⟩
def orderM (cubs : List Cub) (n : Int) : Int × Bool := match heldAt cubs n with
  | some c => (c.order, true)
  | none => (0, false)
def fullM (cubs : List Cub) (n : Int) : Bool := match heldAt cubs n with
  | some c => c.needs.isEmpty
  | none => false
def needsM (cubs : List Cub) (n : Int) : List Ln := match heldAt cubs n with
  | some c => c.needs
  | none => []

theorem atV_some {bl : Nat} {cubs : List Cub} {k : Nat} (hk : k < cubs.length) (hh : cubs[k].held = true) : atV bl cubs k = .pointer (some ⟨bl, k * 3, none⟩) := by rw [atV_in hk, hh]; rfl
theorem atV_none {bl : Nat} {cubs : List Cub} {n : Int} (h : heldAt cubs n = none) : atV bl cubs n = .pointer none := by unfold atV; rw [h]; rfl

set_option maxHeartbeats 400000 in
theorem order_calls {W w : World} {p : Nat} {cubs : List Cub} {R : HProp} (n : Int) (hs : Sat W w (WallH p cubs * R)) :
    Calls Try.prog 17 #[.pointer (some ⟨p, 0, none⟩), .int .i64 n] w fun e w' =>
      e = .returned (.tuple #[.int .u32 (orderM cubs n).1, .bool (orderM cubs n).2]) ∧ w = w' := by
  obtain ⟨bl, gs, rfl, hok, hb⟩ := WallH.open hs
  have h1 := WallB.top hb
  have hat := WallB.at hb
  have hl : gs.length ≤ 16 := by simpa using hok.2.1
  have HC := Lib.hid (at_calls p bl gs n w hl h1 hat)
  cases hh : heldAt (gs.map (·.1)) n with
  | none =>
    have HA : Hid (atV bl (gs.map (·.1)) n = .pointer none) := atV_none hh
    have HO : Hid (orderM (gs.map (·.1)) n = (0, false)) := by unfold Hid orderM; rw [hh]
    clear hs hb hok hat hh h1
    rw [HO.out]
    rw [HA.out] at HC
    go_enter Try.func17, Try.ntmps17
    go_wp2_with fail
    refine HC.out.mono ?_
    rintro e w' ⟨rfl, rfl⟩
    go_wp2_with fail
    go_ret2
    exact ⟨rfl, rfl⟩
  | some c =>
    obtain ⟨k, hk, rfl, rfl, hheld⟩ := heldG hh
    have HA : Hid (atV bl (gs.map (·.1)) k = .pointer (some ⟨bl, k * 3, none⟩)) := atV_some (by simpa using hk) (by simpa using hheld)
    have HO : Hid (orderM (gs.map (·.1)) k = (gs[k].1.order, true)) := by unfold Hid orderM; rw [hh]
    obtain ⟨hc0, hc1, hc2⟩ := hat k (by simpa using hk)
    clear hs hb hok hat hh h1 hheld
    rw [HO.out]
    rw [HA.out] at HC
    go_enter Try.func17, Try.ntmps17
    go_wp2_with fail
    refine HC.out.mono ?_
    rintro e w' ⟨rfl, rfl⟩
    go_wp2_with fail
    go_ret2
    exact ⟨rfl, rfl⟩

/-- The row of a cubby, out of the wall; and what is left. -/
def WallRest (p bl : Nat) (gs : List CubG) (k : Nat) : HProp := bigs ((gs.map cubRow).eraseIdx k) * (blk bl (.cells (flat CubG.cells gs).toArray 72 (0, 0)) * blk p (.cells #[.slice (some ⟨bl, 0, none⟩) gs.length gs.length] 66 (0, 0)))
theorem WallB.split {p bl : Nat} {gs : List CubG} {k : Nat} (hk : k < gs.length) : WallB p bl gs = Row 50 3 (CubG.v gs[k]) gs[k].1.needs.length (flat Ln.cells gs[k].1.needs) * WallRest p bl gs k := by
  unfold WallB Cubs WallRest
  rw [bigs_split (l := gs.map cubRow) (k := k) (by simpa using hk), List.getElem_map]
  unfold cubRow
  ac_rfl
theorem WallB.need {W w : World} {p bl : Nat} {gs : List CubG} {R : HProp} (hs : Sat W w (WallB p bl gs * R)) {k : Nat} (hk : k < gs.length) :
    Sat W w (Row 50 3 (CubG.v gs[k]) gs[k].1.needs.length (flat Ln.cells gs[k].1.needs) * (WallRest p bl gs k * R)) := hs.eq (by rw [WallB.split hk, star_assoc])

set_option maxHeartbeats 400000 in
theorem Full_calls {W w : World} {p : Nat} {cubs : List Cub} {R : HProp} (n : Int) (hs : Sat W w (WallH p cubs * R)) :
    Calls Try.prog 30 #[.pointer (some ⟨p, 0, none⟩), .int .i64 n] w fun e w' => e = .returned (.bool (fullM cubs n)) ∧ w = w' := by
  obtain ⟨bl, gs, rfl, hok, hb⟩ := WallH.open hs
  have h1 := WallB.top hb
  have hat := WallB.at hb
  have hl : gs.length ≤ 16 := by simpa using hok.2.1
  have HC := Lib.hid (at_calls p bl gs n w hl h1 hat)
  cases hh : heldAt (gs.map (·.1)) n with
  | none =>
    have HA : Hid (atV bl (gs.map (·.1)) n = .pointer none) := atV_none hh
    have HO : Hid (fullM (gs.map (·.1)) n = false) := by unfold Hid fullM; rw [hh]
    clear hs hb hok hat hh h1
    rw [HO.out]
    rw [HA.out] at HC
    go_enter Try.func30, Try.ntmps30
    go_wp2_with fail
    refine HC.out.mono ?_
    rintro e w' ⟨rfl, rfl⟩
    go_wp2_with fail
    go_ret
    exact ⟨rfl, rfl⟩
  | some c =>
    obtain ⟨k, hk, rfl, rfl, hheld⟩ := heldG hh
    have HA : Hid (atV bl (gs.map (·.1)) k = .pointer (some ⟨bl, k * 3, none⟩)) := atV_some (by simpa using hk) (by simpa using hheld)
    have HO : Hid (fullM (gs.map (·.1)) k = gs[k].1.needs.isEmpty) := by unfold Hid fullM; rw [hh]
    obtain ⟨hc0, hc1, hc2⟩ := hat k (by simpa using hk)
    have hrow : ∃ b cap, CubG.v gs[k] = .slice none 0 0 ∧ gs[k].1.needs.length = 0 ∨ CubG.v gs[k] = .slice (some ⟨b, 0, none⟩) gs[k].1.needs.length cap := by
      rcases (WallB.need hb hk).row_cases with ⟨h1, h2, _, _⟩ | ⟨g, cap, cur, h1, _⟩
      · exact ⟨0, 0, .inl ⟨h1, h2⟩⟩
      · exact ⟨g, cap, .inr h1⟩
    obtain ⟨b, cap, hrow⟩ := hrow
    have HF := Lib.hid (full_calls b cap (k * 3) gs[k].1.needs.length bl gs[k].1.held gs[k].1.order (CubG.v gs[k]) w hrow hc0 hc2)
    have HH := Lib.hid hheld
    clear hs hb hok hat hh h1 hheld hrow
    rw [HO.out]
    rw [HA.out] at HC
    go_enter Try.func30, Try.ntmps30
    go_wp2_with fail
    refine HC.out.mono ?_
    rintro e w' ⟨rfl, rfl⟩
    go_wp2_with fail
    refine HF.out.mono ?_
    rintro e w' ⟨rfl, rfl⟩
    go_wp2_with fail
    go_ret
    exact ⟨ret1 (val_bool (by rw [HH.out]; cases gs[k].1.needs <;> simp)), rfl⟩
end Go.Proofs.Ytlejhnigbmgbpaa
