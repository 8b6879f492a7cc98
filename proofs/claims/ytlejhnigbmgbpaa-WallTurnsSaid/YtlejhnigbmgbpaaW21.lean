import Derived.Test.YtlejhnigbmgbpaaW20
namespace Go.Proofs.Ytlejhnigbmgbpaa
open Go.RowKit Go.Lamp

set_option maxRecDepth 100000 in
set_option maxHeartbeats 2000000 in
theorem turns_walk (a0 : Int) (a : Option Addr) (len cap : Nat) (w : World)
    (hrd : ∀ i, i < len → ∃ b off z, a = some ⟨b, off, none⟩ ∧ b < w.heap.size ∧ w.cell? ⟨b, off + i, none⟩ = some (.int .u8 z) ∧ 0 ≤ z ∧ z < 256) (hlen : len ≤ 9223372036854775807) :
    Calls Try.prog 3 #[.int .i64 a0, .slice a len cap] w fun e w' => e = .returned (.bool true) ∧ Below w.heap.size w w' := by
  have hs0 := Sat.start w
  have HRd := Lib.hid hrd
  have HLen := Lib.hid hlen
  obtain ⟨n, hn⟩ : ∃ n : Nat, n = (newM a0).length := ⟨_, rfl⟩
  have hn2 : (n : Int) = min (max a0 1) 16 := by rw [hn]; simp [newM]; omega
  have HN := Lib.hid hn
  have HN2 := Lib.hid hn2
  have n1 : 1 ≤ n := by omega
  have n2 : n ≤ 16 := by omega
  clear hrd hlen hn hn2
  go_enter Try.func3, Try.ntmps3
  go_wp2_with fail
  refine (shown_calls hs0).mono ?_
  rintro e w1 ⟨rfl, hs1⟩
  go_wp2_with fail
  refine (New_calls a0 hs1).mono ?_
  rintro e w2 ⟨p, rfl, hs2⟩
  have HS2 := Lib.hid hs2
  clear hs2 hs1 hs0
  have hs3 := HS2.out.alloc (.cells #[.bool false, .bool false, .bool false, .bool false, .bool false, .bool false, .bool false, .bool false, .bool false, .bool false, .bool false, .bool false, .bool false, .bool false, .bool false, .bool false] 26)
  have hs3' : Sat w (w2.alloc (.cells #[.bool false, .bool false, .bool false, .bool false, .bool false, .bool false, .bool false, .bool false, .bool false, .bool false, .bool false, .bool false, .bool false, .bool false, .bool false, .bool false] 26)) (blk w2.heap.size (.cells (hcells (newM a0)).toArray 26 (0, 0)) * (WallH p (newM a0) * Old w)) := by
    rw [hcells_bare]; exact hs3
  have HS3 := Lib.hid hs3'
  clear hs3 hs3'
  generalize hB : w2.heap.size = B at *
  go_upto_region 6 with (fail)
  go_cut [7, 8] (fun v u wc => v = .int .i64 n ∧ u = .pointer (some ⟨B, 0, none⟩) ∧ Sat w wc (blk B (.cells (hcells (newM a0)).toArray 26 (0, 0)) * (WallH p (newM a0) * Old w)))
  case first =>
    go_wp2_with fail
    all_goals
      go_meet
      have h2 := HN2.out
      exact ⟨by congr 1; omega, rfl, HS3.out⟩
  case rest =>
    obtain ⟨rfl, rfl, hsc⟩ := hcut
    clear HS2 HS3 hB
    go_wp2_with fail
    go_loopw [9] (fun vi wr => ∃ i : Nat, ∃ cubs : List Cub, vi = .int .i64 i ∧ i ≤ 30 ∧ Hid (Turn cubs n i) ∧ Sat w wr (blk B (.cells (hcells cubs).toArray 26 (0, 0)) * (WallH p cubs * Old w))) (fun vi _ => (30 - intOf vi).toNat)
    case atStart => exact ⟨0, newM a0, rfl, by omega, by have := Turn.start a0; rw [← HN.out] at this; exact this, hsc⟩
    case round =>
      obtain ⟨i, cubs, rfl, hi30, ht, hsr⟩ := hrel
      have hlen := HLen.out
      by_cases c1 : i < len
      · by_cases c2 : i < 30
        · have c1' : (i : Int) < len := by omega
          have c2' : (i : Int) < 30 := by omega
          clear hlen
          go_wp2_with fail
          obtain ⟨wo, rfl⟩ : ∃ wo : World, wo = wr := ⟨_, rfl⟩
          go_loopw [10, 11] (fun vl vc wr => ∃ m : Nat, m ≤ n ∧ vc = .int .i64 ((m : Int) - 1) ∧ vl = .int .i64 (lf cubs m) ∧ wo = wr) (fun _ vc _ => (intOf vc + 1).toNat)
          case atStart => exact ⟨n, Nat.le_refl _, rfl, by rw [← ht.out.len, lf_end], rfl⟩
          case round =>
            obtain ⟨m, hm, rfl, rfl, rfl⟩ := hrel
            by_cases hm0 : 0 < m
            · have m1 : (1 : Int) ≤ m := by omega
              have m2 : (0 : Int) ≤ (m : Int) - 1 := by omega
              have m3 : (m : Int) - 1 < 16 := by omega
              have m4 : ((m : Int) - 1).toNat = m - 1 := by omega
              have hml : m - 1 < cubs.length := by have := ht.out.len; omega
              have hcell : wo.cell? ⟨B, m - 1, none⟩ = some (.bool cubs[m - 1].held) := by
                rw [hsr.cell]
                have := hcells_get cubs (m - 1) hml (by have := ht.out.len; omega)
                simpa using this
              have hstep := lf_step cubs (m - 1) hml
              rw [show m - 1 + 1 = m by omega] at hstep
              cases hh : cubs[m - 1].held
              all_goals
                rw [hh] at hcell hstep
                have HStep := Lib.hid hstep
                have HH := Lib.hid hh
                clear hstep hh
                go_wp2_with fail
                go_roundw
                case rel => exact ⟨m - 1, by omega, by congr 1; omega, by rw [HStep.out]; first | rfl | (simp; omega), by first | rfl | trivial⟩
                case measure => simp [intOf]; omega
            · obtain rfl : m = 0 := by omega
              have HLf : Hid (lf cubs 0 = firstFree cubs) := lf_zero cubs
              rw [HLf.out]
              go_wp2_with fail
              have hA := Assign_calls i none 0 0 [] (by simp) (by simp) (hsr.eq (star_left_comm _ _ _)) (LnsBelow.nil _ _)
              rw [ht.out.assign] at hA
              have hfb := firstIdx_bound (fun c : Cub => !c.held) cubs
              have hff : firstFree cubs = firstIdx (fun c : Cub => !c.held) cubs := rfl
              by_cases hf : firstFree cubs < 0
              · rw [if_pos hf] at hA
                refine hA.mono ?_
                rintro e w3 ⟨rfl, hs3⟩
                obtain ⟨b, off, z, rfl, hbw, hz, hz0, hz1⟩ := HRd.out i c1
                have hz3 : w3.cell? ⟨b, off + i, none⟩ = some (.int .u8 z) := (hs3.eq (by ac_rfl : _ = Old w * (WallH p cubs * blk B (.cells (hcells cubs).toArray 26 (0, 0))))).old_cell hz
                obtain ⟨k, hk, hkn⟩ : ∃ k : Nat, (k : Int) = z % n ∧ k < n := ⟨(z % n).toNat, by have := Int.emod_nonneg z (show (n : Int) ≠ 0 by omega); omega, by have := Int.emod_lt_of_pos z (show (0 : Int) < n by omega); have := Int.emod_nonneg z (show (n : Int) ≠ 0 by omega); omega⟩
                have HK := Lib.hid hk
                have hR := Release_calls k hs3
                rw [ht.out.release hf hkn] at hR
                have HR := Lib.hid hR
                have HF := Lib.hid hf
                have n0 : ((n : Int) == 0) = false := by simp; omega
                clear hA hfb hff hs3 hR hk hz
                go_wp2_with fail
                rw [← HK.out]
                refine HR.out.mono ?_
                rintro e w4 ⟨rfl, hs4⟩
                have hs5 := (hs4.eq (star_left_comm _ _ _))
                have hl := ht.out.len
                have hkl : k < cubs.length := by omega
                have hcell : w4.cell? ⟨B, k, none⟩ = some (.bool cubs[k].held) := by
                  rw [hs5.cell]
                  have := hcells_get cubs k hkl (by omega)
                  simpa using this
                have hfz : w4.frozen? ⟨B, k, none⟩ = false := hs5.free
                have k1 : (k : Int) < 16 := by omega
                have k2 : (0 : Int) ≤ k := by omega
                have hs6 := hs5.setCell (i := k) (.bool false)
                rw [List.setIfInBounds_toArray, show (Value.bool false) = .bool Cub.bare.held from rfl, ← hcells_set cubs k hkl Cub.bare] at hs6
                have hF := Free_calls (hs6.eq (star_left_comm _ _ _))
                rw [ht.out.free HF.out hkn] at hF
                have HFr := Lib.hid hF
                have HS6 := Lib.hid hs6
                clear hs4 hs5 hF hs6 hl
                go_wp2_with fail
                refine HFr.out.mono ?_
                rintro e w5 ⟨rfl, hb5⟩
                have hs7 := HS6.out.below hb5
                go_wp2_with fail
                go_roundw
                case rel => exact ⟨i + 1, cubs.set k Cub.bare, by go_num, by omega, (ht.out.clear k).mono, hs7⟩
                case measure => simp [intOf]; omega
              · rw [if_neg hf] at hA
                obtain ⟨k, hk, hfk, hfree, _⟩ := firstIdx_nonneg (f := fun c : Cub => !c.held) (l := cubs) (by omega)
                have hfk' : firstFree cubs = k := hfk
                rw [hfk'] at hA ⊢
                refine hA.mono ?_
                rintro e w3 ⟨rfl, hs3⟩
                rw [Int.toNat_natCast] at hs3
                have hs5 := (hs3.eq (star_left_comm _ _ _))
                have hl := ht.out.len
                have hcell : w3.cell? ⟨B, k, none⟩ = some (.bool cubs[k].held) := by
                  rw [hs5.cell]
                  have := hcells_get cubs k hk (by omega)
                  simpa using this
                have hfz : w3.frozen? ⟨B, k, none⟩ = false := hs5.free
                have k1 : (k : Int) < 16 := by omega
                have k2 : (0 : Int) ≤ k := by omega
                have hs6 := hs5.setCell (i := k) (.bool true)
                rw [List.setIfInBounds_toArray, show (Value.bool true) = .bool (⟨true, i, []⟩ : Cub).held from rfl, ← hcells_set cubs k hk ⟨true, i, []⟩] at hs6
                have HS6 := Lib.hid hs6
                clear hs3 hs5 hs6 hl hA hfb hff hf hfk hfk' hfree
                go_wp2_with fail
                go_roundw
                case rel => exact ⟨i + 1, cubs.set k ⟨true, i, []⟩, by go_num, by omega, ht.out.set k, HS6.out⟩
                case measure => simp [intOf]; omega
        · have c1' : (i : Int) < len := by omega
          go_wp2_with fail
          go_ret
          exact ⟨rfl, (hsr.eq (by ac_rfl : _ = Old w * (WallH p cubs * blk B (.cells (hcells cubs).toArray 26 (0, 0))))).ends⟩
      · go_wp2_with fail
        go_ret
        exact ⟨rfl, (hsr.eq (by ac_rfl : _ = Old w * (WallH p cubs * blk B (.cells (hcells cubs).toArray 26 (0, 0))))).ends⟩
end Go.Proofs.Ytlejhnigbmgbpaa
