import Derived.Test.YtlejhnigbmgbpaaW3
namespace Go.Proofs.Ytlejhnigbmgbpaa
open Go.RowKit Go.Lamp

def firstIdx {α : Type} (f : α → Bool) (l : List α) : Int := match l.findIdx? f with
  | some k => k
  | none => -1
theorem firstIdx_at {α : Type} {f : α → Bool} {l : List α} {k : Nat} (hk : k < l.length) (h : ∀ j (hj : j < l.length), j < k → f l[j] = false) (hf : f l[k] = true) : firstIdx f l = k := by
  unfold firstIdx
  have : l.findIdx? f = some k := by
    rw [List.findIdx?_eq_some_iff_getElem]
    exact ⟨hk, hf, fun j hj => by simp [h j (by omega) hj]⟩
  rw [this]
theorem firstIdx_none {α : Type} {f : α → Bool} {l : List α} (h : ∀ j (hj : j < l.length), f l[j] = false) : firstIdx f l = -1 := by
  unfold firstIdx
  have : l.findIdx? f = none := by
    rw [List.findIdx?_eq_none_iff]
    intro x hx
    obtain ⟨j, hj, rfl⟩ := List.getElem_of_mem hx
    exact h j hj
  rw [this]

set_option maxHeartbeats 400000 in
theorem index_cubby (fn : Nat) (caps : Array Value) (f : Cub → Bool) (bl : Nat) (gs : List CubG) (w : World) (hl : gs.length ≤ 16) (hat : CubAt w bl gs) (hent : Enters Try.prog fn)
    (hf : ∀ (c : CubG) (w1 : World), Below w.heap.size w w1 → Calls Try.prog fn (#[.agg #[.bool c.1.held, .int .u32 c.1.order, CubG.v c]] ++ caps) w1 fun e w' => e = .returned (.bool (f c.1)) ∧ Below w1.heap.size w1 w') :
    Calls Try.prog 45 #[.slice (some ⟨bl, 0, none⟩) gs.length gs.length, .func (.func fn) #[] caps] w fun e w' =>
      e = .returned (.int .i64 (firstIdx (fun c => f c.1) gs)) ∧ Below w.heap.size w w' := by
  have HF := Lib.hid hf
  have hrun : ∀ args w, (callFunc fn args).run Try.prog w = .ok (.enter fn args) w := hent
  have HAt : Hid (CubAt w bl gs) := hat
  clear hf hat
  go_enter Try.func45, Try.ntmps45
  go_wp2
  go_loopw [5, 8] (fun _ vi wr => ∃ i : Nat, i ≤ gs.length ∧ vi = .int .i64 i ∧ Below w.heap.size w wr ∧ (∀ j (hj : j < gs.length), j < i → f gs[j].1 = false)) (fun _ vi _ => (gs.length - intOf vi).toNat)
  case atStart => exact ⟨0, Nat.zero_le _, rfl, Below.refl _ _, fun j hj h => by omega⟩
  case round =>
    obtain ⟨i, hi, rfl, hbw, hno⟩ := hrel
    have HNo := Lib.hid hno
    clear hno
    by_cases hlt : i < gs.length
    · obtain ⟨hc0, hc1, hc2⟩ := (CubAt.below HAt.out hbw) i hlt
      go_wp2_with fail
      refine (HF.out gs[i] wr hbw).mono ?_
      rintro e w1 ⟨rfl, hb1⟩
      cases hfi : f gs[i].1
      · have HFi := Lib.hid hfi
        clear hfi
        go_wp2_with fail
        go_roundw
        case rel =>
          refine ⟨i + 1, by omega, by go_num, hbw.trans (hb1.mono hbw.size), fun j hj h => ?_⟩
          rcases Nat.lt_or_ge j i with h2 | h2
          · exact HNo.out j hj h2
          · have : j = i := by omega
            subst this; exact HFi.out
        case measure => simp [intOf]; omega
      · have HFi := Lib.hid hfi
        clear hfi
        go_wp2_with fail
        go_ret
        exact ⟨ret1 (val_int (firstIdx_at hlt HNo.out HFi.out).symm), hbw.trans (hb1.mono hbw.size)⟩
    · go_wp2_with fail
      go_ret
      exact ⟨ret1 (val_int (firstIdx_none fun j hj => HNo.out j hj (by omega)).symm), hbw⟩

theorem enters_free : Enters Try.prog 34 := entersOf Try.func34 (by kernel_rfl) (by kernel_rfl)
theorem enters_of1 : Enters Try.prog 47 := entersOf Try.func47 (by kernel_rfl) (by kernel_rfl)

/-- The least cubby that is an order's. -/
def isOf (order : Int) (c : Cub) : Bool := c.held && c.order == order
set_option maxHeartbeats 400000 in
theorem first_calls (fn : Nat) (caps : Array Value) (f : Cub → Bool) (p bl : Nat) (gs : List CubG) (w : World) (hl : gs.length ≤ 16) (h1 : w.cell? ⟨p, 0, none⟩ = some (.slice (some ⟨bl, 0, none⟩) gs.length gs.length)) (hat : CubAt w bl gs) (hent : Enters Try.prog fn)
    (hf : ∀ (c : CubG) (w1 : World), Below w.heap.size w w1 → Calls Try.prog fn (#[.agg #[.bool c.1.held, .int .u32 c.1.order, CubG.v c]] ++ caps) w1 fun e w' => e = .returned (.bool (f c.1)) ∧ Below w1.heap.size w1 w') :
    Calls Try.prog 33 #[.pointer (some ⟨p, 0, none⟩), .func (.func fn) #[] caps] w fun e w' =>
      e = .returned (.int .i64 (firstIdx f (gs.map (·.1)))) ∧ Below w.heap.size w w' := by
  have HF := Lib.hid hf
  have HAt : Hid (CubAt w bl gs) := hat
  have HE : Hid (Enters Try.prog fn) := hent
  have HM : Hid (firstIdx (fun c : CubG => f c.1) gs = firstIdx f (gs.map (·.1))) := by
    unfold Hid firstIdx
    rw [List.findIdx?_map]; rfl
  clear hf hat hent
  go_enter Try.func33, Try.ntmps33
  go_wp2_with fail
  refine (index_cubby fn caps f bl gs _ hl HAt.out HE.out HF.out).mono ?_
  rintro e w1 ⟨rfl, hb1⟩
  go_wp2_with fail
  go_ret
  exact ⟨ret1 (val_int HM.out), hb1⟩

def cubbyM (cubs : List Cub) (order : Int) : Int × Bool := (max (firstIdx (isOf order) cubs) 0, decide (0 ≤ firstIdx (isOf order) cubs))
set_option maxHeartbeats 400000 in
theorem cubby_calls {W w : World} {p : Nat} {cubs : List Cub} {R : HProp} (order : Int) (hs : Sat W w (WallH p cubs * R)) :
    Calls Try.prog 18 #[.pointer (some ⟨p, 0, none⟩), .int .u32 order] w fun e w' =>
      e = .returned (.tuple #[.int .i64 (cubbyM cubs order).1, .bool (cubbyM cubs order).2]) ∧ Below w.heap.size w w' := by
  obtain ⟨bl, gs, rfl, hok, hb⟩ := WallH.open hs
  have h1 := WallB.top hb
  have HAt : Hid (CubAt w bl gs) := WallB.at hb
  have hl : gs.length ≤ 16 := by simpa using hok.2.1
  have hlt := World.block_lt_of_cell? w _ h1
  simp only at hlt
  clear hs hb hok
  unfold cubbyM
  go_enter Try.func18, Try.ntmps18
  go_wp2_with fail
  go_in
  go_wp2_with fail
  refine (first_calls 47 _ (isOf order) p bl gs _ hl ?_ ?_ enters_of1 ?_).mono ?_
  · simpa using (Below.refl _ _).alloc (Nat.le_refl _) _ |>.cell (p := ⟨p, 0, none⟩) hlt |>.trans h1
  · exact CubAt.below HAt.out ((Below.refl _ _).alloc (Nat.le_refl _) _)
  · intro c w1 hb1
    exact of1_calls c.1.held c.1.order order (CubG.v c) w.heap.size w1 (by
      rw [hb1.cell (p := ⟨w.heap.size, 0, none⟩) (by simp)]
      simp)
  rintro e w1 ⟨rfl, hb1⟩
  go_wp2_with fail
  all_goals
    go_ret2
    exact ⟨ret2 (val_int (by omega)) (val_bool (by first | rfl | (simp; omega))), ((Below.refl _ _).alloc (Nat.le_refl _) _).trans (hb1.mono (by simp))⟩
end Go.Proofs.Ytlejhnigbmgbpaa
