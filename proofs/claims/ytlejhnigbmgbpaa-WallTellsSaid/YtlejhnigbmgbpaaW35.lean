import Derived.Test.YtlejhnigbmgbpaaW34
namespace Go.Proofs.Ytlejhnigbmgbpaa
open Go.RowKit Go.Lamp

section
variable {W w : World} {q n : Nat} {r : Ref} {R : HProp}
def ScanInv (r : Ref) (item : Int) (i : Nat) (t : Int) : Prop := (t = -1 ∧ ∀ j (hj : j < r.ds.length), j < i → r.ds[j].line.item ≠ item) ∨
  (∃ j : Nat, ∃ hj : j < r.ds.length, j < i ∧ t = j ∧ r.ds[j].line.item = item ∧ ∀ k (hk : k < r.ds.length), k < i → r.ds[k].line.item = item → r.ds[j].cubby ≤ r.ds[k].cubby)
theorem ScanInv.miss {item : Int} {i : Nat} {t : Int} (h : ScanInv r item i t) (hi : i < r.ds.length) (hm : r.ds[i].line.item ≠ item) : ScanInv r item (i + 1) t := by
  rcases h with ⟨h1, h2⟩ | ⟨j, hj, h1, h2, h3, h4⟩
  · refine .inl ⟨h1, fun k hk hki => ?_⟩
    rcases Nat.lt_or_ge k i with h5 | h5
    · exact h2 k hk h5
    · obtain rfl : k = i := by omega
      exact hm
  · refine .inr ⟨j, hj, by omega, h2, h3, fun k hk hki h6 => ?_⟩
    rcases Nat.lt_or_ge k i with h5 | h5
    · exact h4 k hk h5 h6
    · obtain rfl : k = i := by omega
      exact absurd h6 hm
theorem ScanInv.first {item : Int} {i : Nat} (h : ScanInv r item i (-1)) (hi : i < r.ds.length) (hm : r.ds[i].line.item = item) : ScanInv r item (i + 1) i := by
  rcases h with ⟨h1, h2⟩ | ⟨j, hj, h1, h2, h3, h4⟩
  · refine .inr ⟨i, hi, by omega, rfl, hm, fun k hk hki h6 => ?_⟩
    rcases Nat.lt_or_ge k i with h5 | h5
    · exact absurd h6 (h2 k hk h5)
    · obtain rfl : k = i := by omega
      omega
  · omega
theorem ScanInv.less {item : Int} {i j : Nat} (h : ScanInv r item i j) (hi : i < r.ds.length) (hj : j < r.ds.length) (hm : r.ds[i].line.item = item) (hl : r.ds[i].cubby < r.ds[j].cubby) : ScanInv r item (i + 1) i := by
  rcases h with ⟨h1, h2⟩ | ⟨j', hj', h1, h2, h3, h4⟩
  · omega
  · obtain rfl : j = j' := by omega
    refine .inr ⟨i, hi, by omega, rfl, hm, fun k hk hki h6 => ?_⟩
    rcases Nat.lt_or_ge k i with h5 | h5
    · have := h4 k hk h5 h6; omega
    · obtain rfl : k = i := by omega
      omega
theorem ScanInv.keep {item : Int} {i j : Nat} (h : ScanInv r item i j) (hi : i < r.ds.length) (hj : j < r.ds.length) (hl : r.ds[j].cubby ≤ r.ds[i].cubby) : ScanInv r item (i + 1) j := by
  rcases h with ⟨h1, h2⟩ | ⟨j', hj', h1, h2, h3, h4⟩
  · omega
  · obtain rfl : j = j' := by omega
    refine .inr ⟨j, hj, by omega, rfl, h3, fun k hk hki h6 => ?_⟩
    rcases Nat.lt_or_ge k i with h5 | h5
    · exact h4 k hk h5 h6
    · obtain rfl : k = i := by omega
      omega
def ScanPost (W : World) (q n : Nat) (r : Ref) (R : HProp) (item : Int) (en : Ending) (w' : World) : Prop :=
  ∃ c k e : Int, en = .returned (.tuple #[.int .i64 c, .int .i64 k, .int .i64 e]) ∧ ScanSaid r item c k e ∧ Sat W w' (RefH q n r * R)

set_option maxHeartbeats 1000000 in
theorem rscan_calls (item : Int) (hb : Bounded r) (hs : Sat W w (RefH q n r * R)) :
    Calls Try.prog 26 #[.pointer (some ⟨q, 0, none⟩), .int .u16 item] w (ScanPost W q n r R item) := by
  obtain ⟨pa, pc, la, lc, hs1, t0, t1, t2, _, hd⟩ := RefH.open hs
  have HD : Hid (r.ds.length = 0 ∨ ∃ b, la = some ⟨b, 0, none⟩) := hd.imp id fun ⟨b, h, _⟩ => ⟨b, h⟩
  have hlen : r.ds.length ≤ 1000 := hb.2
  have HS1 := Lib.hid hs1
  clear hs hb hd hs1
  go_enter Try.func26, Try.ntmps26
  go_wp2_with fail
  go_loopw [7, 8] (fun vt vi wr => ∃ i : Nat, ∃ t : Int, i ≤ r.ds.length ∧ vi = .int .i64 i ∧ vt = .int .i64 t ∧ Hid (ScanInv r item i t) ∧ Sat W wr (RefS q n (.slice pa r.ps.length pc) (.slice la r.ds.length lc) * (PlR (.slice pa r.ps.length pc) r.ps * (NdR (.slice la r.ds.length lc) r.ds * R)))) (fun _ vi _ => (r.ds.length - intOf vi).toNat)
  case atStart => exact ⟨0, -1, by omega, rfl, rfl, .inl ⟨rfl, fun j hj h => by omega⟩, HS1.out⟩
  case round =>
    obtain ⟨i, t, hi, rfl, rfl, HI, hsr⟩ := hrel
    have t2 := hsr.cellAt (i := 2) (v := .slice la r.ds.length lc) rfl
    have HSr : Hid (∀ m, Sat W (wr.drewN m) (RefS q n (.slice pa r.ps.length pc) (.slice la r.ds.length lc) * (PlR (.slice pa r.ps.length pc) r.ps * (NdR (.slice la r.ds.length lc) r.ds * R)))) := fun m => hsr.drewN m
    by_cases hlt : i < r.ds.length
    · rcases HD.out with h0 | ⟨b, rfl⟩
      · omega
      · have hat := NdAt.of_row' hsr.right.right rfl
        obtain ⟨c0, c1, c2, c3⟩ := hat i hlt
        have k0 : (0 : Int) ≤ i := by omega
        have k1 : (i : Int) < r.ds.length := by omega
        by_cases hm : r.ds[i].line.item = item
        · have hmb : (r.ds[i].line.item == item) = true := by simpa using hm
          have HM := Lib.hid hm
          rcases HI.out with ⟨rfl, z1⟩ | ⟨j, hj, hji, rfl, z1, z2⟩
          · clear hat hsr hm z1
            go_wp2_with fail
            go_quiet (fail)
            go_wp2_with fail
            clear hmb
            go_roundw
            case rel => exact ⟨i + 1, i, by omega, by go_num, rfl, HI.out.first hlt HM.out, HSr.out _⟩
            case measure => simp [intOf]; omega
          · obtain ⟨g0, g1, g2, g3⟩ := hat j hj
            have j0 : (0 : Int) ≤ j := by omega
            have j1 : (j : Int) < r.ds.length := by omega
            have hj0 : decide ((j : Int) < 0) = false := by simp
            have HJ := Lib.hid hj
            clear hat hsr hm z1 z2
            by_cases hl : r.ds[i].cubby < r.ds[j].cubby
            · have HL := Lib.hid hl
              have hlb : decide (r.ds[i].cubby < r.ds[j].cubby) = true := decide_eq_true hl
              go_wp2_with fail
              go_quiet (fail)
              go_wp2_with fail
              clear hmb hl hlb hj0
              go_roundw
              case rel => exact ⟨i + 1, i, by omega, by go_num, rfl, HI.out.less hlt HJ.out HM.out HL.out, HSr.out _⟩
              case measure => simp [intOf]; omega
            · have hl2 : r.ds[j].cubby ≤ r.ds[i].cubby := by omega
              have HL := Lib.hid hl2
              have hlb : decide (r.ds[i].cubby < r.ds[j].cubby) = false := decide_eq_false hl
              go_wp2_with fail
              go_quiet (fail)
              go_wp2_with fail
              clear hmb hl hlb hj0 hl2
              go_roundw
              case rel => exact ⟨i + 1, j, by omega, by go_num, rfl, HI.out.keep hlt HJ.out HL.out, HSr.out _⟩
              case measure => simp [intOf]; omega
        · have hmb : (r.ds[i].line.item == item) = false := by simpa using hm
          have HM := Lib.hid hm
          clear hat hsr hm
          go_wp2_with fail
          go_quiet (fail)
          go_wp2_with fail
          clear hmb
          go_roundw
          case rel => exact ⟨i + 1, t, by omega, by go_num, rfl, HI.out.miss hlt HM.out, HSr.out _⟩
          case measure => simp [intOf]; omega
    · obtain rfl : i = r.ds.length := by omega
      rcases HI.out with ⟨rfl, hno⟩ | ⟨j, hj, _, rfl, hit, hmin⟩
      · have HNo := Lib.hid hno
        clear hno
        go_wp2_with fail
        go_ret3
        refine ⟨0, 0, 11, rfl, .inl ⟨rfl, rfl, rfl, fun d hd => ?_⟩, RefH.shut hsr⟩
        obtain ⟨j, hj, rfl⟩ := List.getElem_of_mem hd
        exact HNo.out j hj hj
      · rcases HD.out with h0 | ⟨b, rfl⟩
        · omega
        · obtain ⟨g0, g1, g2, g3⟩ := NdAt.of_row' hsr.right.right rfl j hj
          have j0 : (0 : Int) ≤ j := by omega
          have j1 : (j : Int) < r.ds.length := by omega
          have hj0 : decide ((j : Int) < 0) = false := by simp
          have HMin : Hid (ScanSaid r item r.ds[j].cubby r.ds[j].line.qty 0) := .inr ⟨rfl, _, List.getElem_mem hj, hit, rfl, rfl, fun d hd h2 => by
            obtain ⟨k, hk, rfl⟩ := List.getElem_of_mem hd
            exact hmin k hk hk h2⟩
          clear hsr hit hmin
          go_wp2_with fail
          go_quiet (fail)
          go_wp2_with fail
          go_ret3
          exact ⟨_, _, 0, rfl, HMin.out, RefH.shut (HSr.out _)⟩

def needsTo (r : Ref) (c : Int) (m : Nat) : List Ln := (List.range m).flatMap fun it : Nat => (r.ds.filter (isNd c it)).map (·.line)
def needsAt (r : Ref) (c : Int) (it i : Nat) : List Ln := ((r.ds.take i).filter (isNd c it)).map (·.line)
theorem needsTo_succ (c : Int) (m : Nat) : needsTo r c (m + 1) = needsTo r c m ++ needsAt r c m r.ds.length := by
  unfold needsTo needsAt
  rw [List.range_succ, List.flatMap_append, List.take_length]
  simp
theorem needsAt_le (c : Int) (m i : Nat) : (needsAt r c m i).length ≤ r.ds.length := by
  unfold needsAt
  rw [List.length_map]
  have h1 := List.length_filter_le (isNd c m) (r.ds.take i)
  have h2 := List.length_take_le' i r.ds
  omega
theorem needsTo_le (c : Int) (m : Nat) : (needsTo r c m).length ≤ m * r.ds.length := by
  induction m with
  | zero => simp [needsTo]
  | succ m ih =>
    rw [needsTo_succ, List.length_append, Nat.succ_mul]
    have := needsAt_le (r := r) c m r.ds.length
    omega
theorem needsAt_succ (c : Int) (it i : Nat) (hi : i < r.ds.length) : needsAt r c it (i + 1) = needsAt r c it i ++ if isNd c it r.ds[i] then [r.ds[i].line] else [] := by
  unfold needsAt
  rw [filter_take _ _ _ hi, List.map_append]
  split <;> rfl

set_option maxHeartbeats 1000000 in
theorem rneeds_calls (c : Int) (hb : Bounded r) (hs : Sat W w (RefH q n r * R)) :
    Calls Try.prog 29 #[.pointer (some ⟨q, 0, none⟩), .int .i64 c] w (RetLines W (RefH q n r * R) (needsR r c)) := by
  obtain ⟨pa, pc, la, lc, hs1, t0, t1, t2, _, hd⟩ := RefH.open hs
  have HD : Hid (r.ds.length = 0 ∨ ∃ b, la = some ⟨b, 0, none⟩) := hd.imp id fun ⟨b, h, _⟩ => ⟨b, h⟩
  have hlen : r.ds.length ≤ 1000 := hb.2
  have HS1 := Lib.hid hs1
  clear hs hb hd hs1 t0 t1 t2
  go_enter Try.func29, Try.ntmps29
  go_wp2_with fail
  go_loopw [5, 6] (fun v vt wr => ∃ it : Nat, it ≤ 32 ∧ vt = .int .u16 it ∧ Sat W wr (Row 50 3 v (needsTo r c it).length (flat Ln.cells (needsTo r c it)) * (RefS q n (.slice pa r.ps.length pc) (.slice la r.ds.length lc) * (PlR (.slice pa r.ps.length pc) r.ps * (NdR (.slice la r.ds.length lc) r.ds * R))))) (fun _ vt _ => (32 - intOf vt).toNat)
  case atStart => exact ⟨0, by omega, rfl, HS1.out.row_nil _ _⟩
  case round =>
    obtain ⟨it, hit, rfl, hsr⟩ := hrel
    by_cases hlt : it < 32
    · have hlt' : (it : Int) < 32 := by omega
      have hsr0 : Sat W wr (Row 50 3 u5 (needsTo r c it ++ needsAt r c it 0).length (flat Ln.cells (needsTo r c it ++ needsAt r c it 0)) * (RefS q n (.slice pa r.ps.length pc) (.slice la r.ds.length lc) * (PlR (.slice pa r.ps.length pc) r.ps * (NdR (.slice la r.ds.length lc) r.ds * R)))) := by
        have e : needsAt r c it 0 = [] := by simp [needsAt]
        rw [e, List.append_nil]; exact hsr
      have HS0 := Lib.hid hsr0
      have hto := needsTo_le (r := r) c it
      have hto3 : it * r.ds.length ≤ 32 * 1000 := Nat.mul_le_mul hit hlen
      have hto2 : (needsTo r c it).length ≤ 32000 := Nat.le_trans hto hto3
      clear hsr hsr0 hto hto3
      go_wp2_with fail
      go_loopw [5, 7] (fun v vi wr => ∃ i : Nat, i ≤ r.ds.length ∧ vi = .int .i64 i ∧ Sat W wr (Row 50 3 v (needsTo r c it ++ needsAt r c it i).length (flat Ln.cells (needsTo r c it ++ needsAt r c it i)) * (RefS q n (.slice pa r.ps.length pc) (.slice la r.ds.length lc) * (PlR (.slice pa r.ps.length pc) r.ps * (NdR (.slice la r.ds.length lc) r.ds * R))))) (fun _ vi _ => (r.ds.length - intOf vi).toNat)
      case atStart => exact ⟨0, by omega, rfl, HS0.out⟩
      case round =>
        obtain ⟨i, hi, rfl, hsr⟩ := hrel
        have t2 := hsr.right.cellAt (i := 2) (v := .slice la r.ds.length lc) rfl
        have HSr := Lib.hid hsr
        by_cases hli : i < r.ds.length
        · have hsn := needsAt_succ (r := r) c it i hli
          rcases HD.out with h0 | ⟨b, rfl⟩
          · omega
          · obtain ⟨c0, c1, c2, c3⟩ := NdAt.of_row' hsr.right.right.right rfl i hli
            clear hsr
            cases hc : r.ds[i].cubby == c
            · have hx : isNd c it r.ds[i] = false := by unfold isNd; rw [hc]; rfl
              rw [hx, if_neg (by simp), List.append_nil] at hsn
              have HSn := Lib.hid hsn
              clear hsn hx
              go_wp2_with fail
              clear hc
              go_roundw
              case rel => exact ⟨i + 1, by omega, by go_num, by rw [HSn.out]; exact HSr.out⟩
              case measure => simp [intOf]; omega
            · cases hm : r.ds[i].line.item == (it : Int)
              · have hx : isNd c it r.ds[i] = false := by unfold isNd; rw [hc, hm]; rfl
                rw [hx, if_neg (by simp), List.append_nil] at hsn
                have HSn := Lib.hid hsn
                clear hsn hx
                go_wp2_with fail
                clear hc hm
                go_roundw
                case rel => exact ⟨i + 1, by omega, by go_num, by rw [HSn.out]; exact HSr.out⟩
                case measure => simp [intOf]; omega
              · have hx : isNd c it r.ds[i] = true := by unfold isNd; rw [hc, hm]; rfl
                rw [hx, if_pos rfl] at hsn
                have HSn := Lib.hid hsn
                have hle := needsAt_le (r := r) c it i
                have hl2 : (needsTo r c it ++ needsAt r c it i).length ≤ 33000 := by rw [List.length_append]; omega
                have HL2 := Lib.hid hl2
                clear hsn hx hle hl2
                go_wp2_with (at_builtin; go_must (refine append_line rfl (.tmp 44) (.tmp 53) rfl rfl (W := W) (HSr.out.alloc_keep _) rfl (sv := .slice (some ⟨wr.heap.size, 0, none⟩) 1 1) (m := 1) (news := Ln.cells r.ds[i].line) (.inr ⟨_, _, rfl, fun j u hu => ?_⟩) rfl ?_ ?_ (fun v' w' hs' _ => ?_)))
                case refine_1 => exact cells_new wr #[.int .u16 r.ds[i].line.item, .int .u16 r.ds[i].line.loc, .int .i64 r.ds[i].line.qty] 50 j _ hu
                case refine_2 =>
                  intro u hu
                  simp [Ln.cells] at hu
                  rcases hu with rfl | rfl | rfl <;> rfl
                case refine_3 => have := HL2.out; omega
                have hs2 : Sat W w' (Row 50 3 v' (needsTo r c it ++ needsAt r c it (i + 1)).length (flat Ln.cells (needsTo r c it ++ needsAt r c it (i + 1))) * (RefS q n (.slice pa r.ps.length pc) (.slice (some ⟨b, 0, none⟩) r.ds.length lc) * (PlR (.slice pa r.ps.length pc) r.ps * (NdR (.slice (some ⟨b, 0, none⟩) r.ds.length lc) r.ds * R)))) := by
                  rw [HSn.out, ← List.append_assoc, flat_append, List.length_append (bs := [r.ds[i].line])]
                  exact hs'.eq (by simp [flat])
                have HS2 := Lib.hid hs2
                clear hs2 hs' hc hm
                go_wp2_with fail
                go_roundw
                case rel => exact ⟨i + 1, by omega, by go_num, HS2.out⟩
                case measure => simp [intOf]; omega
        · obtain rfl : i = r.ds.length := by omega
          clear hsr
          go_wp2_with fail
          go_roundw
          case rel => exact ⟨it + 1, by omega, by go_num, by rw [needsTo_succ]; exact HSr.out⟩
          case measure => simp [intOf]; omega
    · obtain rfl : it = 32 := by omega
      go_wp2_with fail
      go_ret
      exact ⟨_, rfl, (by
        have h2 := hsr.eq (by ac_rfl : _ = RefS q n (.slice pa r.ps.length pc) (.slice la r.ds.length lc) * (PlR (.slice pa r.ps.length pc) r.ps * (NdR (.slice la r.ds.length lc) r.ds * (Row 50 3 u5 (needsTo r c 32).length (flat Ln.cells (needsTo r c 32)) * R))))
        exact (RefH.shut h2).eq (star_left_comm _ _ _))⟩
end
end Go.Proofs.Ytlejhnigbmgbpaa
