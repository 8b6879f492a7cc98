import Derived.Test.YtlejhnigbmgbpaaW26
import Derived.Deep.RegionHeld3
import Derived.Deep.DeepCutAuto
import Derived.Deep.CutBlock
namespace Go.Proofs.Ytlejhnigbmgbpaa
open Go.RowKit Go.Lamp

set_option maxRecDepth 100000 in
set_option maxHeartbeats 4000000 in
theorem scan_walk (a0 : Int) (a : Option Addr) (len cap : Nat) (ss : List Stp) (it : Int) (w : World) (ho : StpOld w a len ss) (hlen : len ≤ 9223372036854775807) (hi0 : 0 ≤ it) (hi1 : it ≤ 65535) :
    Calls Try.prog 5 #[.int .i64 a0, .slice a len cap, .int .u16 it] w fun e w' => e = .returned (.bool true) ∧ Below w.heap.size w w' := by
  have hs0 := Sat.start w
  have HO : Hid (StpOld w a len ss) := ho
  have HLen := Lib.hid hlen
  have hit := and31 it hi0 hi1
  generalize it % 32 = item at *
  obtain ⟨n, hn⟩ : ∃ n : Nat, n = (newM a0).length := ⟨_, rfl⟩
  have HN := Lib.hid hn
  clear ho hlen hn hi0 hi1
  go_enter Try.func5, Try.ntmps5
  go_wp2_with fail
  refine (shown_calls hs0).mono ?_
  rintro e w1 ⟨rfl, hs1⟩
  go_wp2_with fail
  refine (New_calls a0 hs1).mono ?_
  rintro e w2 ⟨p, rfl, hs2⟩
  have HS2 := Lib.hid hs2
  clear hs2 hs1 hs0
  go_upto_block 0 with (fail)
  clear hit
  go_cut [] (fun wc => ∃ cubs : List Cub, Hid (WallGood cubs n) ∧ Sat w wc (WallH p cubs * Old w))
  case first =>
    go_wp2_with fail
    go_loopw [9] (fun vi wr => ∃ i : Nat, ∃ cubs : List Cub, vi = .int .i64 i ∧ i ≤ 100 ∧ i ≤ len ∧ Hid (WallGood cubs n) ∧ Sat w wr (WallH p cubs * Old w)) (fun vi _ => (100 - intOf vi).toNat)
    case atStart => exact ⟨0, newM a0, rfl, by omega, by omega, by unfold Hid; rw [HN.out]; exact newM_good a0, HS2.out⟩
    case round =>
      obtain ⟨i, cubs, rfl, hi200, hil, hc, hsr⟩ := hrel
      by_cases c1 : i < len
      · by_cases c2 : i < 100
        · have c1' : (i : Int) < len := by omega
          have c2' : (i : Int) < 100 := by omega
          rcases HO.out.2.2 with h0 | ⟨b, off, rfl, hcs⟩
          · omega
          · have hl := HO.out.1
            obtain ⟨q0, q1, q2, q3, q4, q5⟩ := hcs i (by omega)
            have hok := HO.out.2.1 _ (List.getElem_mem (by omega : i < ss.length))
            have hso := (hsr.eq (star_comm _ _))
            have d0 := hso.old_cell q0
            have d1 := hso.old_cell q1
            have d2 := hso.old_cell q2
            have d3 := hso.old_cell q3
            have d4 := hso.old_cell q4
            have d5 := hso.old_cell q5
            have hLn := HLen.out
            generalize hx : ss[i]'(by omega) = x at *
            have HXOk : Hid (x.Ok w) := hok
            have hs4 := hsr.alloc (.cells #[.int .i64 x.kind, .int .i64 x.cubby, .int .i64 x.qty, .int .u32 x.id, .int .u16 x.item, .slice x.la x.ln x.lc] 39)
            have HS4 := Lib.hid hs4
            clear hcs hso hok hx hs4 q0 q1 q2 q3 q4 q5
            generalize hX : wr.heap.size = X at *
            go_upto_block 2 with (fail)
            clear d0 d1 d2 d3 d4 d5
            have hs4 := HS4.out
            clear HS4
            generalize wr.alloc (.cells #[.int .i64 x.kind, .int .i64 x.cubby, .int .i64 x.qty, .int .u32 x.id, .int .u16 x.item, .slice x.la x.ln x.lc] 39) = w4 at *
            have d0 := hs4.cellAt (i := 0) (v := .int .i64 x.kind) rfl
            have d1 := hs4.cellAt (i := 1) (v := .int .i64 x.cubby) rfl
            have d2 := hs4.cellAt (i := 2) (v := .int .i64 x.qty) rfl
            have d3 := hs4.cellAt (i := 3) (v := .int .u32 x.id) rfl
            have d4 := hs4.cellAt (i := 4) (v := .int .u16 x.item) rfl
            have d5 := hs4.cellAt (i := 5) (v := .slice x.la x.ln x.lc) rfl
            have hb31 := and31 x.item HXOk.out.item0 HXOk.out.item1
            by_cases k01 : x.kind = 0 ∨ x.kind = 1
            · have HStep : Hid (stepM cubs x = (assignM cubs x.id (smallLn x.ls)).2) := by unfold Hid stepM; rw [if_pos k01]
              have kb : (x.kind == 0) = true ∨ (x.kind == 0) = false ∧ (x.kind == 1) = true := by rcases k01 with k | k <;> simp [k]
              clear k01
              rcases kb with b0 | ⟨b0, b1⟩
              all_goals
                go_wp2_with fail
                have hsd : Sat w w4.drew (StpB X x * (WallH p cubs * Old w)) := hs4.drew
                go_region_held3 (fun w' => w'.cell? ⟨X, 3, none⟩ = some (.int .u32 x.id) ∧ w'.cell? ⟨X, 5, none⟩ = some (.slice x.la x.ln x.lc))
                  (first | exact ⟨d3, d5⟩ | exact ⟨h63, h65⟩ | exact ⟨h53, h55⟩)
                  (first
                    | (go_at_call 14; refine (small_calls (R := StpB X x * WallH p cubs) x.la x.ln x.lc x.ls HXOk.out.old HXOk.out.wf HXOk.out.len (hsd.eq (by ac_rfl))).mono ?_; rintro e w5 ⟨v5, rfl, hs5⟩; have hl5 : Sat w w5 (LnR v5 (smallLn x.ls) * (Old w * (StpB X x * WallH p cubs))) := hs5; have hq5 := (hl5.eq (by ac_rfl : _ = StpB X x * (LnR v5 (smallLn x.ls) * (Old w * WallH p cubs)))); have h53 := hq5.cellAt (i := 3) (v := .int .u32 x.id) rfl; have h55 := hq5.cellAt (i := 5) (v := .slice x.la x.ln x.lc) rfl)
                    | (go_at_call 11; refine (Assign_row x.id _ (smallLn x.ls) (Nat.le_trans (smallLn_length _) (by omega)) (small_wf HXOk.out.wf) (hl5.eq (by ac_rfl : _ = LnR v5 (smallLn x.ls) * (WallH p cubs * (StpB X x * Old w))))).mono ?_; rintro e w6 ⟨rfl, hs6⟩; have hl6 : Sat w w6 (WallH p (assignM cubs x.id (smallLn x.ls)).2 * (LnR v5 (smallLn x.ls) * (StpB X x * Old w))) := hs6; have hq6 := (hl6.eq (by ac_rfl : _ = StpB X x * (WallH p (assignM cubs x.id (smallLn x.ls)).2 * (Old w * LnR v5 (smallLn x.ls))))); have h63 := hq6.cellAt (i := 3) (v := .int .u32 x.id) rfl; have h65 := hq6.cellAt (i := 5) (v := .slice x.la x.ln x.lc) rfl))
                have HEnd : Hid (Sat w w6 (StpB X x * (WallH p (stepM cubs x) * Old w))) := by rw [HStep.out]; exact (hq6.eq (by ac_rfl : _ = LnR v5 (smallLn x.ls) * (StpB X x * (WallH p (assignM cubs x.id (smallLn x.ls)).2 * Old w)))).right
                clear hq6 hl6 hs6 h63 h65 hq5 hl5 hs5 h53 h55 hsd d0 d1 d2 d3 d4 d5
                go_wp2_with fail
                go_roundw
                case rel => exact ⟨i + 1, stepM cubs x, by go_num, by omega, by omega, stepM_good hc.out HXOk.out.wf, HEnd.out.right⟩
                case measure => simp [intOf]; omega
            · have b0 : (x.kind == 0) = false := by simpa using fun h => k01 (.inl h)
              have b1 : (x.kind == 1) = false := by simpa using fun h => k01 (.inr h)
              by_cases k24 : x.kind = 2 ∨ x.kind = 3 ∨ x.kind = 4
              · have HStep : Hid (stepM cubs x = (putM cubs x.cubby (x.item % 32) x.qty).2) := by unfold Hid stepM; rw [if_neg k01, if_pos k24]
                have kb : (x.kind == 2) = true ∨ (x.kind == 2) = false ∧ ((x.kind == 3) = true ∨ (x.kind == 3) = false ∧ (x.kind == 4) = true) := by rcases k24 with k | k | k <;> simp [k]
                have HC := Lib.hid (Put_calls x.cubby (x.item % 32) x.qty (hs4.eq (star_left_comm _ _ _)) HXOk.out.qty)
                clear k01 k24
                rcases kb with b2 | ⟨b2, b3 | ⟨b3, b4⟩⟩
                all_goals
                  go_wp2_with fail
                  refine HC.out.mono ?_
                  rintro e w7 ⟨rfl, hs7⟩
                  have HEnd : Hid (Sat w w7 (StpB X x * (WallH p (stepM cubs x) * Old w))) := by rw [HStep.out]; exact Sat.eq hs7 (star_left_comm _ _ _)
                  clear hs7
                  go_wp2_with fail
                  go_roundw
                  case rel => exact ⟨i + 1, stepM cubs x, by go_num, by omega, by omega, stepM_good hc.out HXOk.out.wf, HEnd.out.right⟩
                  case measure => simp [intOf]; omega
              · have b2 : (x.kind == 2) = false := by simpa using fun h => k24 (.inl h)
                have b3 : (x.kind == 3) = false := by simpa using fun h => k24 (.inr (.inl h))
                have b4 : (x.kind == 4) = false := by simpa using fun h => k24 (.inr (.inr h))
                by_cases k5 : x.kind = 5
                · have HStep : Hid (stepM cubs x = (lessM cubs x.id (x.item % 32) x.qty).2) := by unfold Hid stepM; rw [if_neg k01, if_neg k24, if_pos k5]
                  have HC := Lib.hid (Less_calls x.id (x.item % 32) x.qty (hs4.eq (star_left_comm _ _ _)) HXOk.out.qty)
                  have b5 : (x.kind == 5) = true := by simpa using k5
                  clear k01 k24 k5
                  go_wp2_with fail
                  refine HC.out.mono ?_
                  rintro e w7 ⟨rfl, hs7⟩
                  have HEnd : Hid (Sat w w7 (StpB X x * (WallH p (stepM cubs x) * Old w))) := by rw [HStep.out]; exact Sat.eq hs7 (star_left_comm _ _ _)
                  clear hs7
                  go_wp2_with fail
                  go_roundw
                  case rel => exact ⟨i + 1, stepM cubs x, by go_num, by omega, by omega, stepM_good hc.out HXOk.out.wf, HEnd.out.right⟩
                  case measure => simp [intOf]; omega
                · have b5 : (x.kind == 5) = false := by simpa using k5
                  by_cases k6 : x.kind = 6
                  · have HStep : Hid (stepM cubs x = (releaseM cubs x.cubby).2) := by unfold Hid stepM; rw [if_neg k01, if_neg k24, if_neg k5, if_pos k6]
                    have HC := Lib.hid (Release_calls x.cubby (hs4.eq (star_left_comm _ _ _)))
                    have b6 : (x.kind == 6) = true := by simpa using k6
                    clear k01 k24 k5 k6
                    go_wp2_with fail
                    refine HC.out.mono ?_
                    rintro e w7 ⟨rfl, hs7⟩
                    have HEnd : Hid (Sat w w7 (StpB X x * (WallH p (stepM cubs x) * Old w))) := by rw [HStep.out]; exact Sat.eq hs7 (star_left_comm _ _ _)
                    clear hs7
                    go_wp2_with fail
                    go_roundw
                    case rel => exact ⟨i + 1, stepM cubs x, by go_num, by omega, by omega, stepM_good hc.out HXOk.out.wf, HEnd.out.right⟩
                    case measure => simp [intOf]; omega
                  · have HStep : Hid (stepM cubs x = cubs) := by unfold Hid stepM; rw [if_neg k01, if_neg k24, if_neg k5, if_neg k6]
                    have b6 : (x.kind == 6) = false := by simpa using k6
                    clear k01 k24 k5 k6
                    have HEnd : Hid (Sat w w4 (StpB X x * (WallH p (stepM cubs x) * Old w))) := by rw [HStep.out]; exact hs4
                    clear hs4
                    go_wp2_with fail
                    go_roundw
                    case rel => exact ⟨i + 1, stepM cubs x, by go_num, by omega, by omega, stepM_good hc.out HXOk.out.wf, HEnd.out.right⟩
                    case measure => simp [intOf]; omega
        · have c1' : (i : Int) < len := by omega
          go_wp2_with fail
          go_meet
          exact ⟨cubs, hc, hsr⟩
      · go_wp2_with fail
        go_meet
        exact ⟨cubs, hc, hsr⟩
  case rest =>
    obtain ⟨cubs, hc, hsc⟩ := hcut
    have HSc := Lib.hid hsc
    clear HS2 hsc
    go_upto_block 3 with (fail)
    go_cut [11, 12] (fun vf vq wc => Sat w wc (WallH p cubs * Old w) ∧ ((vf = .int .i64 (-1) ∧ vq = .int .i64 0 ∧ scanM cubs item = (0, 0, 11)) ∨
      ∃ (k : Nat) (q : Int), vf = .int .i64 k ∧ vq = .int .i64 q ∧ scanM cubs item = ((k : Int), q, 0) ∧ 1 ≤ q ∧ q ≤ 9223372036854775807 ∧ putM cubs k item (wrap64 (q + 1)) = (10, cubs) ∧ (putM cubs k item q).1 = 0))
    case first =>
      go_wp2_with fail
      go_loopw [11, 12, 13] (fun vf vq vc wr => ∃ c : Nat, c ≤ 16 ∧ vc = .int .i64 c ∧ vf = .int .i64 (firstM cubs item c).1 ∧ vq = .int .i64 (firstM cubs item c).2 ∧ Sat w wr (WallH p cubs * Old w)) (fun _ _ vc _ => (16 - intOf vc).toNat)
      case atStart => exact ⟨0, by omega, rfl, by rw [firstM_zero], by rw [firstM_zero], HSc.out⟩
      case round =>
        obtain ⟨c, hc16, rfl, rfl, rfl, hsr⟩ := hrel
        have hend := firstM_end hc.out.1 item c
        by_cases hf : (firstM cubs item c).1 < 0
        · have hst := firstM_step hc.out.1 item c hf
          rw [firstM_neg hf] at hend ⊢
          by_cases c16 : c < 16
          · have c16' : (c : Int) < 16 := by omega
            have HSt := Lib.hid hst
            have HNd := Lib.hid (needs_calls c hsr)
            obtain ⟨hrise, hl12, _⟩ := needsM_len hc.out.1 c
            generalize needsM cubs c = ls at *
            clear hst hend hsr hf
            go_wp2_with fail
            refine HNd.out.mono ?_
            rintro e w3 ⟨v, rfl, hs3⟩
            obtain ⟨b, cap, _, hv, hcap, hmax, hat⟩ := LnAt.of_row hs3
            obtain ⟨ad, cp, rfl, had⟩ : ∃ ad cp, v = .slice ad ls.length cp ∧ (ls.length = 0 ∨ ad = some ⟨b, 0, none⟩) := by
              rcases hv with h | ⟨h, h0⟩
              · exact ⟨_, _, h, .inr rfl⟩
              · exact ⟨none, 0, by rw [h, h0], .inl h0⟩
            have HS3 := Lib.hid hs3
            have HAt := Lib.hid hat
            have HAd := Lib.hid had
            have HRise := Lib.hid hrise
            clear hs3 hv hat had hcap hmax hrise
            go_wp2_with fail
            obtain ⟨wo, rfl⟩ : ∃ wo : World, wo = w3 := ⟨_, rfl⟩
            go_loopw [11, 12, 15] (fun vf vq vk wr => ∃ k : Nat, k ≤ ls.length ∧ vk = .int .i64 k ∧ vf = .int .i64 (seekM ls item k c).1 ∧ vq = .int .i64 (seekM ls item k c).2 ∧ wo = wr) (fun _ _ vk _ => (ls.length - intOf vk).toNat)
            case atStart => exact ⟨0, by omega, rfl, by rw [seek_zero], by rw [seek_zero], rfl⟩
            case round =>
              obtain ⟨k, hk, rfl, rfl, rfl, rfl⟩ := hrel
              by_cases ck : k < ls.length
              · have ck' : (k : Int) < ls.length := by omega
                have k0 : (0 : Int) ≤ k := by omega
                rcases HAd.out with h0 | rfl
                · omega
                · obtain ⟨e0, e1, e2⟩ := HAt.out k ck
                  by_cases hi : ls[k].item = item
                  · have b0 : (ls[k].item == item) = true := by simpa using hi
                    have hh := seek_hit HRise.out ck c
                    rw [hi] at hh
                    have HH := Lib.hid hh
                    clear hh hi
                    go_wp2_with fail
                    go_roundw
                    case rel => exact ⟨k + 1, by omega, by go_num, by rw [HH.out], by rw [HH.out], by first | rfl | trivial⟩
                    case measure => simp [intOf]; omega
                  · have b0 : (ls[k].item == item) = false := by simpa using hi
                    have HH := Lib.hid (seek_miss ck hi c)
                    clear hi
                    go_wp2_with fail
                    go_roundw
                    case rel => exact ⟨k + 1, by omega, by go_num, by rw [HH.out], by rw [HH.out], by first | rfl | trivial⟩
                    case measure => simp [intOf]; omega
              · obtain rfl : k = ls.length := by omega
                rw [← HSt.out]
                go_wp2_with fail
                go_roundw
                case rel => exact ⟨c + 1, by omega, by go_num, rfl, rfl, HS3.out.right⟩
                case measure => simp [intOf]; omega
          · obtain rfl : c = 16 := by omega
            have HR := Lib.hid (hend (.inr (by have := hc.out.1.2.1; omega)))
            clear hend hst hf
            go_wp2_with fail
            go_meet
            refine ⟨hsr, ?_⟩
            rcases HR.out with ⟨_, h2⟩ | ⟨k, q, h1, _⟩
            · exact .inl ⟨rfl, rfl, h2⟩
            · simp only [Prod.mk.injEq] at h1; omega
        · have hr := hend (.inl (by omega))
          rcases hr with ⟨h1, _⟩ | ⟨k, q, h1, h2⟩
          · rw [h1] at hf; simp at hf
          · rw [h1]
            have HR := Lib.hid h2
            have k0 : (0 : Int) ≤ k := by omega
            clear hend hf h1 h2
            by_cases c16 : c < 16
            · have c16' : (c : Int) < 16 := by omega
              go_wp2_with fail
              go_meet
              exact ⟨hsr, .inr ⟨k, q, rfl, rfl, HR.out⟩⟩
            · obtain rfl : c = 16 := by omega
              go_wp2_with fail
              go_meet
              exact ⟨hsr, .inr ⟨k, q, rfl, rfl, HR.out⟩⟩
    case rest =>
      obtain ⟨hs5, hres⟩ := hcut
      have hsn := Scan_calls item hs5
      rcases hres with ⟨rfl, rfl, hm⟩ | ⟨k, q, rfl, rfl, hm, q1, q2, hp1, hp2⟩
      · rw [hm] at hsn
        have HScan := Lib.hid hsn
        have HS5 := Lib.hid hs5
        clear hsn hs5 hm
        go_wp2_with fail
        refine HScan.out.mono ?_
        rintro e w6 ⟨rfl, hb6⟩
        have HE := Lib.hid ((HS5.out.below hb6).eq (star_comm _ _)).ends
        clear hb6
        go_wp2_with fail
        go_ret
        exact ⟨rfl, HE.out⟩
      · rw [hm] at hsn
        have HScan := Lib.hid hsn
        have HS5 := Lib.hid hs5
        have HP1 := Lib.hid hp1
        have HP2 := Lib.hid hp2
        have hwl : -9223372036854775808 ≤ wrap64 (q + 1) := by unfold wrap64; omega
        have HWl := Lib.hid hwl
        have k0 : (0 : Int) ≤ k := by omega
        clear hsn hs5 hm hp1 hp2 hwl
        go_wp2_with fail
        refine HScan.out.mono ?_
        rintro e w6 ⟨rfl, hb6⟩
        have hp := Put_calls k item (wrap64 (q + 1)) (HS5.out.below hb6) HWl.out
        rw [HP1.out] at hp
        have HP := Lib.hid hp
        clear hp hb6
        go_wp2_with fail
        refine HP.out.mono ?_
        rintro e w7 ⟨rfl, hs7⟩
        have hp := Put_calls k item q hs7 (by omega)
        rw [HP2.out] at hp
        have HP' := Lib.hid hp
        clear hp hs7
        go_wp2_with fail
        refine HP'.out.mono ?_
        rintro e w8 ⟨rfl, hs8⟩
        have HE := Lib.hid (hs8.eq (star_comm _ _)).ends
        clear hs8
        go_wp2_with fail
        go_ret
        exact ⟨rfl, HE.out⟩
end Go.Proofs.Ytlejhnigbmgbpaa
