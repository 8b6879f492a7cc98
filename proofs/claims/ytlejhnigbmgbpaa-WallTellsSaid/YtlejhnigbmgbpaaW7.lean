import Derived.Test.YtlejhnigbmgbpaaW6
import Derived.RegionTactic
namespace Go.Proofs.Ytlejhnigbmgbpaa
open Go.RowKit Go.Lamp

set_option maxHeartbeats 400000 in
theorem search_nil (item : Int) (w : World) :
    Calls Try.prog 48 #[.slice none 0 0, .int .u16 item, .func (.func 49) #[] #[]] w fun e w' =>
      e = .returned (.tuple #[.int .i64 0, .bool false]) ∧ w = w' := by
  go_enter Try.func48, Try.ntmps48
  go_wp2
  go_loopw [9, 10, 11] (fun vi vj vh wr => vi = .int .i64 0 ∧ vj = .int .i64 0 ∧ w = wr) (fun _ _ _ _ => 0)
  case atStart => exact ⟨rfl, rfl, rfl⟩
  case round =>
    obtain ⟨rfl, rfl, rfl⟩ := hrel
    go_wp2
    go_ret2
    exact ⟨rfl, rfl⟩

set_option maxHeartbeats 400000 in
theorem place_calls {W w : World} {R : HProp} {v : Value} {ls : List Ln} (bl k : Nat) (item : Int) (hs : Sat W w (Row 50 3 v ls.length (flat Ln.cells ls) * R)) (hr : Rising ls) (hl : ls.length ≤ 64)
    (h2 : w.cell? ⟨bl, k + 2, none⟩ = some v) :
    Calls Try.prog 39 #[.pointer (some ⟨bl, k, none⟩), .int .u16 item] w fun e w' =>
      e = .returned (.tuple #[.int .i64 (lower ls item), .bool (foundAt ls item)]) ∧ Below w.heap.size w w' := by
  obtain ⟨b, cap, hn, hv, hcap, hmax, hat⟩ := LnAt.of_row hs
  rcases hv with rfl | ⟨rfl, h0⟩
  · have HS := Lib.hid (search_calls b cap ls item w hr hl hat)
    clear hs hn hat
    go_enter Try.func39, Try.ntmps39
    go_wp2_with fail
    refine HS.out.mono ?_
    rintro e w1 ⟨rfl, hb1⟩
    go_wp2_with fail
    go_ret2
    exact ⟨rfl, hb1⟩
  · have hz : ls = [] := List.eq_nil_of_length_eq_zero (by omega)
    subst hz
    clear hs hn hat
    go_enter Try.func39, Try.ntmps39
    go_wp2_with fail
    refine (search_nil item w).mono ?_
    rintro e w1 ⟨rfl, rfl⟩
    go_wp2_with fail
    go_ret2
    exact ⟨rfl, Below.refl _ _⟩

/-- A row of lines comes back, nil or not. -/
def RetLines (W : World) (R : HProp) (ls : List Ln) (en : Ending) (w' : World) : Prop :=
  ∃ v, en = .returned v ∧ Sat W w' (Row 50 3 v ls.length (flat Ln.cells ls) * R)

set_option maxHeartbeats 400000 in
theorem needs_calls {W w : World} {p : Nat} {cubs : List Cub} {R : HProp} (n : Int) (hs : Sat W w (WallH p cubs * R)) :
    Calls Try.prog 19 #[.pointer (some ⟨p, 0, none⟩), .int .i64 n] w (RetLines W (WallH p cubs * R) (needsM cubs n)) := by
  obtain ⟨bl, gs, rfl, hok, hb⟩ := WallH.open hs
  have h1 := WallB.top hb
  have hat := WallB.at hb
  have hl : gs.length ≤ 16 := by simpa using hok.2.1
  have HC := Lib.hid (at_calls p bl gs n w hl h1 hat)
  cases hh : heldAt (gs.map (·.1)) n with
  | none =>
    have HA : Hid (atV bl (gs.map (·.1)) n = .pointer none) := atV_none hh
    have HO : Hid (needsM (gs.map (·.1)) n = []) := by unfold Hid needsM; rw [hh]
    clear hb hok hat hh h1
    rw [HO.out]
    rw [HA.out] at HC
    go_enter Try.func19, Try.ntmps19
    go_wp2_with fail
    refine HC.out.mono ?_
    rintro e w' ⟨rfl, rfl⟩
    go_wp2_with fail
    go_ret
    exact ⟨_, rfl, hs.row_nil _ _⟩
  | some c =>
    obtain ⟨k, hk, rfl, rfl, hheld⟩ := heldG hh
    have HA : Hid (atV bl (gs.map (·.1)) k = .pointer (some ⟨bl, k * 3, none⟩)) := atV_some (by simpa using hk) (by simpa using hheld)
    have HO : Hid (needsM (gs.map (·.1)) k = gs[k].1.needs) := by unfold Hid needsM; rw [hh]
    obtain ⟨hc0, hc1, hc2⟩ := hat k (by simpa using hk)
    have hrow := WallB.need hb hk
    have hmany : gs[k].1.needs.length ≤ 12 := (hok.2.2 gs[k].1 (List.mem_map.2 ⟨gs[k], List.getElem_mem hk, rfl⟩)).many
    have HF := Lib.hid (clone_any hrow (by omega))
    have HOk := Lib.hid hok
    clear hs hb hok hat hh h1 hheld hrow
    rw [HO.out]
    rw [HA.out] at HC
    go_enter Try.func19, Try.ntmps19
    go_wp2_with fail
    refine HC.out.mono ?_
    rintro e w' ⟨rfl, rfl⟩
    go_wp2_with fail
    refine HF.out.mono ?_
    rintro e w1 ⟨v, rfl, hv, _⟩
    go_wp2_with fail
    go_ret
    refine ⟨v, rfl, ?_⟩
    rw [star_left_comm]
    exact WallH.shut (bl := bl) (hv.eq (by rw [WallB.split hk]; ac_rfl)) rfl HOk.out

def freeM (cubs : List Cub) : Int := (cubs.filter fun c => !c.held).length
set_option maxHeartbeats 400000 in
theorem Free_calls {W w : World} {p : Nat} {cubs : List Cub} {R : HProp} (hs : Sat W w (WallH p cubs * R)) :
    Calls Try.prog 13 #[.pointer (some ⟨p, 0, none⟩)] w fun e w' => e = .returned (.int .i64 (freeM cubs)) ∧ Below w.heap.size w w' := by
  obtain ⟨bl, gs, rfl, hok, hb⟩ := WallH.open hs
  have h1 := WallB.top hb
  have HAt : Hid (CubAt w bl gs) := WallB.at hb
  have hl : gs.length ≤ 16 := by simpa using hok.2.1
  clear hs hb hok
  have HZ : Hid (freeM (gs.map (·.1)) = ((gs.take gs.length).filter fun c => !c.1.held).length) := by
    unfold Hid freeM
    rw [List.filter_map, List.length_map, List.take_length]; rfl
  go_enter Try.func13, Try.ntmps13
  go_wp2_with fail
  go_loopw [3, 5, 11] (fun vn _ vi wr => ∃ i : Nat, i ≤ gs.length ∧ vi = .int .i64 i ∧ vn = .int .i64 ((gs.take i).filter fun c => !c.1.held).length ∧ Below w.heap.size w wr) (fun _ _ vi _ => (gs.length - intOf vi).toNat)
  case atStart => exact ⟨0, Nat.zero_le _, rfl, rfl, Below.refl _ _⟩
  case round =>
    obtain ⟨i, hi, rfl, rfl, hbw⟩ := hrel
    have hle : ((gs.take i).filter fun c => !c.1.held).length ≤ 16 := Nat.le_trans (List.length_filter_le _ _) (by simp; omega)
    by_cases hlt : i < gs.length
    · obtain ⟨hc0, hc1, hc2⟩ := (CubAt.below HAt.out hbw) i hlt
      have hsn : ((gs.take (i + 1)).filter fun c => !c.1.held).length = ((gs.take i).filter fun c => !c.1.held).length + (if gs[i].1.held then 0 else 1) := by
        rw [List.take_succ_eq_append_getElem hlt, List.filter_append, List.length_append]
        cases hq : gs[i].1.held <;> simp [hq]
      have HSn := Lib.hid hsn
      clear hsn
      cases hh : gs[i].1.held
      all_goals
        rw [hh] at hc0 HSn
        have HH := Lib.hid hh
        clear hh
        go_wp2_with fail
        go_roundw
        case rel => exact ⟨i + 1, by omega, by go_num, by rw [HSn.out]; go_num, (hbw.alloc hbw.size _)⟩
        case measure => simp [intOf]; omega
    · have : i = gs.length := by omega
      subst this
      go_wp2_with fail
      go_ret
      exact ⟨ret1 (val_int (by rw [HZ.out])), hbw⟩
end Go.Proofs.Ytlejhnigbmgbpaa
