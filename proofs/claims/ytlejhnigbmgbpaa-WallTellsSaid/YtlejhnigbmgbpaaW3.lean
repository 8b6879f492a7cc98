import Derived.Test.YtlejhnigbmgbpaaW2
namespace Go.Lamp
/-! A row of assertions. -/
def bigs (l : List HProp) : HProp := l.foldr (· * ·) 1
theorem bigs_nil : bigs [] = 1 := rfl
theorem bigs_cons (a : HProp) (l : List HProp) : bigs (a :: l) = a * bigs l := rfl
theorem bigs_split {l : List HProp} {k : Nat} (hk : k < l.length) : bigs l = l[k] * bigs (l.eraseIdx k) := by
  induction l generalizing k with
  | nil => simp at hk
  | cons a l ih =>
    cases k with
    | zero => rfl
    | succ k =>
      simp only [List.getElem_cons_succ, List.eraseIdx_cons_succ, bigs_cons]
      rw [ih (by simpa using hk)]
      ac_rfl
theorem bigs_set {l : List HProp} {k : Nat} (hk : k < l.length) (x : HProp) : bigs (l.set k x) = x * bigs (l.eraseIdx k) := by
  induction l generalizing k with
  | nil => simp at hk
  | cons a l ih =>
    cases k with
    | zero => rfl
    | succ k =>
      simp only [List.set_cons_succ, List.eraseIdx_cons_succ, bigs_cons]
      rw [ih (by simpa using hk)]
      ac_rfl
end Go.Lamp
namespace Go.Proofs.Ytlejhnigbmgbpaa
open Go.RowKit Go.Lamp

structure Cub where
  held : Bool
  order : Int
  needs : List Ln
  deriving DecidableEq
def Cub.bare : Cub := ⟨false, 0, []⟩
abbrev CubG := Cub × Option Nat × Nat
abbrev CubG.v (c : CubG) : Value := .slice (c.2.1.map fun b => ⟨b, 0, none⟩) c.1.needs.length c.2.2
def CubG.cells (c : CubG) : List Value := [.bool c.1.held, .int .u32 c.1.order, CubG.v c]
theorem CubG.cells_length (c : CubG) : (CubG.cells c).length = 3 := rfl
def Ln.ok (l : Ln) : Prop := 0 ≤ l.item ∧ l.item ≤ 65535 ∧ 1 ≤ l.qty ∧ l.qty ≤ 9223372036854775807
structure Cub.Ok (c : Cub) : Prop where
  rising : Rising c.needs
  many : c.needs.length ≤ 12
  each : ∀ l ∈ c.needs, l.ok
  empty : c.held = false → c = Cub.bare
def WallOk (cubs : List Cub) : Prop := 1 ≤ cubs.length ∧ cubs.length ≤ 16 ∧ ∀ c ∈ cubs, c.Ok
def cubRow (c : CubG) : HProp := Row 50 3 (CubG.v c) c.1.needs.length (flat Ln.cells c.1.needs)
def Cubs (bl : Nat) (gs : List CubG) : HProp := blk bl (.cells (flat CubG.cells gs).toArray 72 (0, 0)) * bigs (gs.map cubRow)
def WallB (p bl : Nat) (gs : List CubG) : HProp := blk p (.cells #[.slice (some ⟨bl, 0, none⟩) gs.length gs.length] 66 (0, 0)) * Cubs bl gs
def WallH (p : Nat) (cubs : List Cub) : HProp := hex fun bl => hex fun gs : List CubG => lift (gs.map (·.1) = cubs ∧ WallOk cubs) * WallB p bl gs

theorem WallH.open {W w : World} {p : Nat} {cubs : List Cub} {R : HProp} (h : Sat W w (WallH p cubs * R)) :
    ∃ bl gs, gs.map (·.1) = cubs ∧ WallOk cubs ∧ Sat W w (WallB p bl gs * R) := by
  unfold WallH at h
  rw [Sat.hex_iff] at h
  obtain ⟨bl, h⟩ := h
  rw [Sat.hex_iff] at h
  obtain ⟨gs, h⟩ := h
  rw [star_assoc, Sat.lift_iff] at h
  exact ⟨bl, gs, h.1.1, h.1.2, h.2⟩
theorem WallH.shut {W w : World} {p bl : Nat} {gs : List CubG} {cubs : List Cub} {R : HProp} (h : Sat W w (WallB p bl gs * R)) (hg : gs.map (·.1) = cubs) (ho : WallOk cubs) : Sat W w (WallH p cubs * R) := by
  unfold WallH
  rw [Sat.hex_iff]; refine ⟨bl, ?_⟩
  rw [Sat.hex_iff]; refine ⟨gs, ?_⟩
  rw [star_assoc, Sat.lift_iff]
  exact ⟨⟨hg, ho⟩, h⟩
theorem WallB.top {W w : World} {p bl : Nat} {gs : List CubG} {R : HProp} (h : Sat W w (WallB p bl gs * R)) : w.cell? ⟨p, 0, none⟩ = some (.slice (some ⟨bl, 0, none⟩) gs.length gs.length) := by
  unfold WallB at h
  rw [star_assoc] at h
  rw [h.cell]; rfl
theorem WallB.row {W w : World} {p bl : Nat} {gs : List CubG} {R : HProp} (h : Sat W w (WallB p bl gs * R)) :
    Sat W w (blk bl (.cells (flat CubG.cells gs).toArray 72 (0, 0)) * (bigs (gs.map cubRow) * (blk p (.cells #[.slice (some ⟨bl, 0, none⟩) gs.length gs.length] 66 (0, 0)) * R))) := by
  refine h.eq ?_
  unfold WallB Cubs
  ac_rfl
def CubAt (w : World) (bl : Nat) (gs : List CubG) : Prop := ∀ k (hk : k < gs.length),
  w.cell? ⟨bl, k * 3, none⟩ = some (.bool gs[k].1.held) ∧ w.cell? ⟨bl, k * 3 + 1, none⟩ = some (.int .u32 gs[k].1.order) ∧ w.cell? ⟨bl, k * 3 + 2, none⟩ = some (.slice (gs[k].2.1.map fun b => ⟨b, 0, none⟩) gs[k].1.needs.length gs[k].2.2)
theorem WallB.at {W w : World} {p bl : Nat} {gs : List CubG} {R : HProp} (h : Sat W w (WallB p bl gs * R)) : CubAt w bl gs := by
  have h2 := WallB.row h
  intro k hk
  refine ⟨?_, ?_, ?_⟩
  · rw [h2.cell]; have := flat_get CubG.cells_length gs k 0 hk (by omega); simpa [CubG.cells] using this
  · rw [h2.cell]; have := flat_get CubG.cells_length gs k 1 hk (by omega); simpa [CubG.cells] using this
  · rw [h2.cell]; have := flat_get CubG.cells_length gs k 2 hk (by omega); simpa [CubG.cells] using this
theorem CubAt.below {w w' : World} {bl : Nat} {gs : List CubG} (h : CubAt w bl gs) (hb : Below w.heap.size w w') : CubAt w' bl gs := by
  intro k hk
  obtain ⟨h0, h1, h2⟩ := h k hk
  have hlt := World.block_lt_of_cell? w _ h0
  exact ⟨(hb.cell (p := ⟨bl, k * 3, none⟩) hlt).trans h0, (hb.cell (p := ⟨bl, k * 3 + 1, none⟩) hlt).trans h1, (hb.cell (p := ⟨bl, k * 3 + 2, none⟩) hlt).trans h2⟩

/-! The place of a cubby that has an order. -/
def heldAt (cubs : List Cub) (n : Int) : Option Cub := if 0 ≤ n then (cubs[n.toNat]?).filter (·.held) else none
def atV (bl : Nat) (cubs : List Cub) (n : Int) : Value := .pointer (if (heldAt cubs n).isSome then some ⟨bl, n.toNat * 3, none⟩ else none)

theorem heldAt_neg {cubs : List Cub} {n : Int} (h : n < 0) : heldAt cubs n = none := by unfold heldAt; rw [if_neg (by omega)]
theorem heldAt_out {cubs : List Cub} {k : Nat} (h : ¬ k < cubs.length) : heldAt cubs k = none := by
  unfold heldAt; rw [if_pos (by omega), Int.toNat_natCast, List.getElem?_eq_none (by omega)]; rfl
theorem heldAt_in {cubs : List Cub} {k : Nat} (h : k < cubs.length) : heldAt cubs k = if cubs[k].held then some cubs[k] else none := by
  unfold heldAt; rw [if_pos (by omega), Int.toNat_natCast, List.getElem?_eq_getElem h]; rfl
theorem atV_neg {bl : Nat} {cubs : List Cub} {n : Int} (h : n < 0) : atV bl cubs n = .pointer none := by unfold atV; rw [heldAt_neg h]; rfl
theorem atV_out {bl : Nat} {cubs : List Cub} {k : Nat} (h : ¬ k < cubs.length) : atV bl cubs k = .pointer none := by unfold atV; rw [heldAt_out h]; rfl
theorem atV_in {bl : Nat} {cubs : List Cub} {k : Nat} (h : k < cubs.length) : atV bl cubs k = .pointer (if cubs[k].held then some ⟨bl, k * 3, none⟩ else none) := by
  unfold atV; rw [heldAt_in h]; cases cubs[k].held <;> simp

set_option maxHeartbeats 400000 in
theorem at_calls (p bl : Nat) (gs : List CubG) (n : Int) (w : World) (hl : gs.length ≤ 16) (h1 : w.cell? ⟨p, 0, none⟩ = some (.slice (some ⟨bl, 0, none⟩) gs.length gs.length)) (h2 : CubAt w bl gs) :
    Calls Try.prog 35 #[.pointer (some ⟨p, 0, none⟩), .int .i64 n] w fun e w' => e = .returned (atV bl (gs.map (·.1)) n) ∧ w = w' := by
  by_cases hn : n < 0
  · have hb : decide (n < 0) = true := by simpa using hn
    have HA : Hid (atV bl (gs.map (·.1)) n = .pointer none) := atV_neg hn
    go_enter Try.func35, Try.ntmps35
    go_wp2
    go_ret
    exact ⟨ret1 HA.out.symm, rfl⟩
  · obtain ⟨k, rfl⟩ := Int.eq_ofNat_of_zero_le (by omega : 0 ≤ n)
    have hb : decide ((k : Int) < 0) = false := by simp
    by_cases hk : k < gs.length
    · have hb2 : decide (gs.length ≤ k) = false := by simpa using hk
      obtain ⟨hc0, hc1, hc2⟩ := h2 k hk
      clear h2
      have HA : Hid (atV bl (gs.map (·.1)) k = .pointer (if gs[k].1.held then some ⟨bl, k * 3, none⟩ else none)) := by
        have := atV_in (bl := bl) (cubs := gs.map (·.1)) (k := k) (by simpa using hk)
        simpa [Hid] using this
      cases hh : gs[k].1.held
      all_goals
        rw [hh] at hc0
        have HH := Lib.hid hh
        clear hh
        go_enter Try.func35, Try.ntmps35
        go_wp2
        go_ret
        exact ⟨ret1 (by rw [HA.out, HH.out]; rfl), rfl⟩
    · have hb2 : decide (gs.length ≤ k) = true := by simp; omega
      have HA : Hid (atV bl (gs.map (·.1)) k = .pointer none) := atV_out (by simpa using hk)
      clear h2
      go_enter Try.func35, Try.ntmps35
      go_wp2
      go_ret
      exact ⟨ret1 HA.out.symm, rfl⟩
end Go.Proofs.Ytlejhnigbmgbpaa
