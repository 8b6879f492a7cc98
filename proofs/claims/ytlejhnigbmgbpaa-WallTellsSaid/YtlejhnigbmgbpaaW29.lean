import Derived.Test.YtlejhnigbmgbpaaW28
import Derived.Test.YtlejhnigbmgbpaaW32
import Derived.Deep.RegionHeld3
import Derived.Deep.DeepCutAuto
import Derived.Deep.CutBlock
import Derived.BigQuiet
namespace Go.Proofs.Ytlejhnigbmgbpaa
open Go.RowKit Go.Lamp

set_option maxRecDepth 100000 in
set_option maxHeartbeats 4000000 in
theorem needs_walk (a0 : Int) (a : Option Addr) (len cap : Nat) (ss : List Stp) (w : World) (ho : StpOld w a len ss) (hlen : len ≤ 9223372036854775807) :
    Calls Try.prog 8 #[.int .i64 a0, .slice a len cap] w fun e w' => e = .returned (.bool true) ∧ Below w.heap.size w w' := by
  have hs0 := Sat.start w
  have HO : Hid (StpOld w a len ss) := ho
  have HLen := Lib.hid hlen
  obtain ⟨n, hn⟩ : ∃ n : Nat, n = (newM a0).length := ⟨_, rfl⟩
  have HN := Lib.hid hn
  clear ho hlen hn
  go_enter Try.func8, Try.ntmps8
  go_wp2_with fail
  refine (shown_calls hs0).mono ?_
  rintro e w1 ⟨rfl, hs1⟩
  go_wp2_with fail
  refine (New_calls a0 hs1).mono ?_
  rintro e w2 ⟨p, rfl, hs2⟩
  have HS2 := Lib.hid hs2
  clear hs2 hs1 hs0
  go_wp2_with fail
  go_loopw [7] (fun vi wr => ∃ i : Nat, ∃ cubs : List Cub, vi = .int .i64 i ∧ i ≤ 100 ∧ i ≤ len ∧ Hid (WallGood cubs n) ∧ Sat w wr (WallH p cubs * Old w)) (fun vi _ => (100 - intOf vi).toNat)
  case atStart => exact ⟨0, newM a0, rfl, by omega, by omega, by unfold Hid; rw [HN.out]; exact newM_good a0, HS2.out⟩
  case round =>
    obtain ⟨i, cubs, rfl, hi200, hil, hc, hsr⟩ := hrel
    by_cases c1 : i < len
    · by_cases c2 : i < 100
      · have c1' : (i : Int) < len := by omega
        have c2' : (i : Int) < 100 := by omega
        rcases HO.out.2.2 with h0 | ⟨b, off, rfl, hcs⟩
        · omega
        · have hl := HO.out.1
          obtain ⟨q0, q1, q2, q3, q4, q5⟩ := hcs i (by omega)
          have hok := HO.out.2.1 _ (List.getElem_mem (by omega : i < ss.length))
          have hso := (hsr.eq (star_comm _ _))
          have d0 := hso.old_cell q0
          have d1 := hso.old_cell q1
          have d2 := hso.old_cell q2
          have d3 := hso.old_cell q3
          have d4 := hso.old_cell q4
          have d5 := hso.old_cell q5
          have hLn := HLen.out
          generalize hx : ss[i]'(by omega) = x at *
          have HXOk : Hid (x.Ok w) := hok
          have hs4 := hsr.alloc (.cells #[.int .i64 x.kind, .int .i64 x.cubby, .int .i64 x.qty, .int .u32 x.id, .int .u16 x.item, .slice x.la x.ln x.lc] 39)
          have HS4 := Lib.hid hs4
          clear hcs hso hok hx hs4 q0 q1 q2 q3 q4 q5
          generalize hX : wr.heap.size = X at *
          go_upto_block 2 with (fail)
          clear d0 d1 d2 d3 d4 d5
          have hs4 := HS4.out
          clear HS4
          generalize wr.alloc (.cells #[.int .i64 x.kind, .int .i64 x.cubby, .int .i64 x.qty, .int .u32 x.id, .int .u16 x.item, .slice x.la x.ln x.lc] 39) = w4 at *
          have d0 := hs4.cellAt (i := 0) (v := .int .i64 x.kind) rfl
          have d1 := hs4.cellAt (i := 1) (v := .int .i64 x.cubby) rfl
          have d2 := hs4.cellAt (i := 2) (v := .int .i64 x.qty) rfl
          have d3 := hs4.cellAt (i := 3) (v := .int .u32 x.id) rfl
          have d4 := hs4.cellAt (i := 4) (v := .int .u16 x.item) rfl
          have d5 := hs4.cellAt (i := 5) (v := .slice x.la x.ln x.lc) rfl
          have hb31 := and31 x.item HXOk.out.item0 HXOk.out.item1
          go_cut [] (fun wc => Sat w wc (StpB X x * (WallH p (stepM cubs x) * Old w)))
          case first =>
            by_cases k01 : x.kind = 0 ∨ x.kind = 1
            · have HStep : Hid (stepM cubs x = (assignM cubs x.id (smallLn x.ls)).2) := by unfold Hid stepM; rw [if_pos k01]
              have kb : (x.kind == 0) = true ∨ (x.kind == 0) = false ∧ (x.kind == 1) = true := by rcases k01 with k | k <;> simp [k]
              clear k01
              rcases kb with b0 | ⟨b0, b1⟩
              all_goals
                go_wp2_with fail
                have hsd : Sat w w4.drew (StpB X x * (WallH p cubs * Old w)) := hs4.drew
                go_region_held3 (fun w' => w'.cell? ⟨X, 3, none⟩ = some (.int .u32 x.id) ∧ w'.cell? ⟨X, 5, none⟩ = some (.slice x.la x.ln x.lc))
                  (first | exact ⟨d3, d5⟩ | exact ⟨h63, h65⟩ | exact ⟨h53, h55⟩)
                  (first
                    | (go_at_call 14; refine (small_calls (R := StpB X x * WallH p cubs) x.la x.ln x.lc x.ls HXOk.out.old HXOk.out.wf HXOk.out.len (hsd.eq (by ac_rfl))).mono ?_; rintro e w5 ⟨v5, rfl, hs5⟩; have hl5 : Sat w w5 (LnR v5 (smallLn x.ls) * (Old w * (StpB X x * WallH p cubs))) := hs5; have hq5 := (hl5.eq (by ac_rfl : _ = StpB X x * (LnR v5 (smallLn x.ls) * (Old w * WallH p cubs)))); have h53 := hq5.cellAt (i := 3) (v := .int .u32 x.id) rfl; have h55 := hq5.cellAt (i := 5) (v := .slice x.la x.ln x.lc) rfl)
                    | (go_at_call 11; refine (Assign_row x.id _ (smallLn x.ls) (Nat.le_trans (smallLn_length _) (by omega)) (small_wf HXOk.out.wf) (hl5.eq (by ac_rfl : _ = LnR v5 (smallLn x.ls) * (WallH p cubs * (StpB X x * Old w))))).mono ?_; rintro e w6 ⟨rfl, hs6⟩; have hl6 : Sat w w6 (WallH p (assignM cubs x.id (smallLn x.ls)).2 * (LnR v5 (smallLn x.ls) * (StpB X x * Old w))) := hs6; have hq6 := (hl6.eq (by ac_rfl : _ = StpB X x * (WallH p (assignM cubs x.id (smallLn x.ls)).2 * (Old w * LnR v5 (smallLn x.ls))))); have h63 := hq6.cellAt (i := 3) (v := .int .u32 x.id) rfl; have h65 := hq6.cellAt (i := 5) (v := .slice x.la x.ln x.lc) rfl))
                have HEnd : Hid (Sat w w6 (StpB X x * (WallH p (stepM cubs x) * Old w))) := by rw [HStep.out]; exact (hq6.eq (by ac_rfl : _ = LnR v5 (smallLn x.ls) * (StpB X x * (WallH p (assignM cubs x.id (smallLn x.ls)).2 * Old w)))).right
                clear hq6 hl6 hs6 h63 h65 hq5 hl5 hs5 h53 h55 hsd d0 d1 d2 d3 d4 d5
                go_wp2_with fail
                go_meet
                exact HEnd.out
            · have b0 : (x.kind == 0) = false := by simpa using fun h => k01 (.inl h)
              have b1 : (x.kind == 1) = false := by simpa using fun h => k01 (.inr h)
              by_cases k24 : x.kind = 2 ∨ x.kind = 3 ∨ x.kind = 4
              · have HStep : Hid (stepM cubs x = (putM cubs x.cubby (x.item % 32) x.qty).2) := by unfold Hid stepM; rw [if_neg k01, if_pos k24]
                have kb : (x.kind == 2) = true ∨ (x.kind == 2) = false ∧ ((x.kind == 3) = true ∨ (x.kind == 3) = false ∧ (x.kind == 4) = true) := by rcases k24 with k | k | k <;> simp [k]
                have HC := Lib.hid (Put_calls x.cubby (x.item % 32) x.qty (hs4.eq (star_left_comm _ _ _)) HXOk.out.qty)
                clear k01 k24
                rcases kb with b2 | ⟨b2, b3 | ⟨b3, b4⟩⟩
                all_goals
                  go_wp2_with fail
                  refine HC.out.mono ?_
                  rintro e w7 ⟨rfl, hs7⟩
                  have HEnd : Hid (Sat w w7 (StpB X x * (WallH p (stepM cubs x) * Old w))) := by rw [HStep.out]; exact Sat.eq hs7 (star_left_comm _ _ _)
                  clear hs7
                  go_wp2_with fail
                  go_meet
                  exact HEnd.out
              · have b2 : (x.kind == 2) = false := by simpa using fun h => k24 (.inl h)
                have b3 : (x.kind == 3) = false := by simpa using fun h => k24 (.inr (.inl h))
                have b4 : (x.kind == 4) = false := by simpa using fun h => k24 (.inr (.inr h))
                by_cases k5 : x.kind = 5
                · have HStep : Hid (stepM cubs x = (lessM cubs x.id (x.item % 32) x.qty).2) := by unfold Hid stepM; rw [if_neg k01, if_neg k24, if_pos k5]
                  have HC := Lib.hid (Less_calls x.id (x.item % 32) x.qty (hs4.eq (star_left_comm _ _ _)) HXOk.out.qty)
                  have b5 : (x.kind == 5) = true := by simpa using k5
                  clear k01 k24 k5
                  go_wp2_with fail
                  refine HC.out.mono ?_
                  rintro e w7 ⟨rfl, hs7⟩
                  have HEnd : Hid (Sat w w7 (StpB X x * (WallH p (stepM cubs x) * Old w))) := by rw [HStep.out]; exact Sat.eq hs7 (star_left_comm _ _ _)
                  clear hs7
                  go_wp2_with fail
                  go_meet
                  exact HEnd.out
                · have b5 : (x.kind == 5) = false := by simpa using k5
                  by_cases k6 : x.kind = 6
                  · have HStep : Hid (stepM cubs x = (releaseM cubs x.cubby).2) := by unfold Hid stepM; rw [if_neg k01, if_neg k24, if_neg k5, if_pos k6]
                    have HC := Lib.hid (Release_calls x.cubby (hs4.eq (star_left_comm _ _ _)))
                    have b6 : (x.kind == 6) = true := by simpa using k6
                    clear k01 k24 k5 k6
                    go_wp2_with fail
                    refine HC.out.mono ?_
                    rintro e w7 ⟨rfl, hs7⟩
                    have HEnd : Hid (Sat w w7 (StpB X x * (WallH p (stepM cubs x) * Old w))) := by rw [HStep.out]; exact Sat.eq hs7 (star_left_comm _ _ _)
                    clear hs7
                    go_wp2_with fail
                    go_meet
                    exact HEnd.out
                  · have HStep : Hid (stepM cubs x = cubs) := by unfold Hid stepM; rw [if_neg k01, if_neg k24, if_neg k5, if_neg k6]
                    have b6 : (x.kind == 6) = false := by simpa using k6
                    clear k01 k24 k5 k6
                    have HEnd : Hid (Sat w w4 (StpB X x * (WallH p (stepM cubs x) * Old w))) := by rw [HStep.out]; exact hs4
                    clear hs4
                    go_wp2_with fail
                    go_meet
                    exact HEnd.out
          case rest =>
            have hsr5 := hcut.right
            have HG : Hid (WallGood (stepM cubs x) n) := stepM_good hc.out HXOk.out.wf
            generalize stepM cubs x = cs at *
            clear hcut d0 d1 d2 d3 d4 d5 hs4 hb31 HXOk hsr hc
            go_wp2_with fail
            go_loopw [9] (fun vc wr => ∃ c : Nat, vc = .int .i64 c ∧ c ≤ 16 ∧ Sat w wr (WallH p cs * Old w)) (fun vc _ => (16 - intOf vc).toNat)
            case atStart => exact ⟨0, rfl, by omega, hsr5⟩
            case round =>
              obtain ⟨c, rfl, hc16, hsk⟩ := hrel
              by_cases ck : c < 16
              · have ck' : (c : Int) < 16 := by omega
                have HNd := Lib.hid (needs_calls c hsk)
                obtain ⟨hrise, hl12, hok⟩ := needsM_len HG.out.1 c
                have hfn := full_needs cs c
                clear hsk
                go_wp2_with fail
                refine HNd.out.mono ?_
                rintro e w3 ⟨v, rfl, hs3⟩
                have HOrd := Lib.hid (order_calls c hs3.right)
                have HS3 := Lib.hid hs3
                generalize hls : needsM cs c = ls at *
                obtain ⟨ad, cp, rfl, had⟩ : ∃ ad cp, v = .slice ad ls.length cp ∧ (ls.length = 0 ∨ ∃ b, ad = some ⟨b, 0, none⟩) := by
                  obtain ⟨b, cap, _, hv, _⟩ := LnAt.of_row hs3
                  rcases hv with h | ⟨h, h0⟩
                  · exact ⟨_, _, h, .inr ⟨b, rfl⟩⟩
                  · exact ⟨none, 0, by rw [h, h0], .inl h0⟩
                have HAd := Lib.hid had
                have HRise := Lib.hid hrise
                have HOk := Lib.hid hok
                have HFn := Lib.hid hfn
                have HLs := Lib.hid hls
                clear hs3 had hrise hok hfn hls
                go_wp2_with fail
                refine HOrd.out.mono ?_
                rintro e w4 ⟨rfl, rfl⟩
                go_wp2_with fail
                go_loopw [13] (fun vk wr => ∃ k : Nat, vk = .int .i64 k ∧ k ≤ ls.length ∧ Sat w wr (Row 50 3 (.slice ad ls.length cp) ls.length (flat Ln.cells (zeroM ls k)) * (WallH p cs * Old w))) (fun vk _ => (ls.length - intOf vk).toNat)
                case atStart => exact ⟨0, rfl, by omega, by rw [zeroM_zero]; exact HS3.out⟩
                case round =>
                  obtain ⟨k, rfl, hk, hs5⟩ := hrel
                  by_cases kl : k < ls.length
                  · rcases HAd.out with h0 | ⟨b, rfl⟩
                    · omega
                    · have kl' : (k : Int) < ls.length := by omega
                      have k0 : (0 : Int) ≤ k := by omega
                      have kz : k < (zeroM ls k).length := by rw [zeroM_length]; exact kl
                      obtain ⟨hfr, hst⟩ := hs5.row_set (i := k * 3 + 2) (.int .i64 0)
                      rw [zeroM_flat ls k kl] at hst
                      have HSt : Hid (∀ m, Sat w ((wr.drewN m).setCell ⟨b, k * 3 + 2, none⟩ (.int .i64 0)) (Row 50 3 (.slice (some ⟨b, 0, none⟩) ls.length cp) ls.length (flat Ln.cells (zeroM ls (k + 1))) * (WallH p cs * Old w))) := fun m => by
                        have h := ((hs5.drewN m).row_set (i := k * 3 + 2) (.int .i64 0)).2
                        rw [zeroM_flat ls k kl] at h
                        exact h
                      have hat := (LnAt.of_row' hs5)
                      obtain ⟨e0, _, e2⟩ := hat k kz
                      have hzk := (zeroM_get ls k k kz)
                      rw [hzk.1] at e0
                      rw [hzk.2 (Nat.le_refl _)] at e2
                      have hq := (HOk.out _ (List.getElem_mem kl)).2.2
                      have hq1 : decide (ls[k].qty < 1) = false := by simpa using hq.1
                      cases k with
                      | zero =>
                        clear hat hs5 hst hzk hq
                        simp only [Nat.zero_mul, Nat.zero_add] at e0 e2 hfr
                        have hg : decide (((0 : Nat) : Int) > 0) = false := rfl
                        go_wp2_with fail
                        go_quiet (fail)
                        go_wp2_with fail
                        go_roundw
                        case rel => exact ⟨1, by go_num, by omega, HSt.out _⟩
                        case measure => simp [intOf]; omega
                      | succ j =>
                        obtain ⟨g0, _, _⟩ := hat j (by omega)
                        rw [(zeroM_get ls (j + 1) j (by omega)).1] at g0
                        have hlt := rising_get HRise.out (show j < j + 1 by omega) kl
                        have hlt' : decide (ls[j].item ≥ ls[j + 1].item) = false := by simpa using hlt
                        have kw : IntKind.i64.wrap (((j + 1 : Nat) : Int) - 1) = (j : Int) := by rw [IntKind.wrap_i64]; omega
                        have j0 : (0 : Int) ≤ j := by omega
                        have jl : (j : Int) < ls.length := by omega
                        have hg : decide ((((j + 1 : Nat) : Int)) > 0) = true := by simp
                        clear hat hs5 hst hzk hq
                        go_wp2_with fail
                        go_quiet (fail)
                        go_wp2_with fail
                        go_roundw
                        case rel => exact ⟨j + 2, by go_num, by omega, HSt.out _⟩
                        case measure => simp [intOf]; omega
                  · obtain rfl : k = ls.length := by omega
                    have HFu := Lib.hid (Full_calls c hs5.right)
                    have HNd2 := Lib.hid (needs_calls c hs5.right)
                    rw [HFn.out.1] at HFu
                    rw [HLs.out] at HNd2
                    have HF2 := Lib.hid HFn.out.2
                    have HS5 := Lib.hid hs5
                    clear hs5 HFn HNd HOrd HLs HAd HS3
                    generalize orderM cs c = o at *
                    obtain ⟨o1, o2⟩ := o
                    cases o2
                    · have hz : ls = [] := HF2.out rfl
                      subst hz
                      go_wp2_with fail
                      refine HFu.out.mono ?_
                      rintro e w6 ⟨rfl, rfl⟩
                      go_wp2_with fail
                      go_roundw
                      case rel => exact ⟨c + 1, by go_num, by omega, HS5.out.right⟩
                      case measure => simp [intOf]; omega
                    · rcases Nat.eq_zero_or_pos ls.length with hz | hz
                      · obtain rfl : ls = [] := List.eq_nil_of_length_eq_zero hz
                        clear hz
                        rw [show decide (([] : List Ln).length = 0) = true from rfl, Bool.true_and] at HFu
                        go_wp2_with fail
                        refine HFu.out.mono ?_
                        rintro e w6 ⟨rfl, rfl⟩
                        go_wp2_with fail
                        refine HNd2.out.mono ?_
                        rintro e w7 ⟨v, rfl, hs7⟩
                        obtain ⟨ad', cp', rfl, _⟩ := hs7.row_slice
                        have HS7 := Lib.hid hs7.right
                        clear hs7
                        go_wp2_with fail
                        go_roundw
                        case rel => exact ⟨c + 1, by go_num, by omega, HS7.out⟩
                        case measure => simp [intOf]; omega
                      · have hz2 : decide (ls.length = 0) = false := decide_eq_false (by omega)
                        rw [hz2, Bool.and_false] at HFu
                        have HZ := Lib.hid hz2
                        clear hz2
                        have hzb : ((ls.length : Int) == 0) = false := by simp; intro h; rw [h] at hz; simp at hz
                        go_wp2_with fail
                        refine HFu.out.mono ?_
                        rintro e w6 ⟨rfl, rfl⟩
                        go_wp2_with fail
                        refine HNd2.out.mono ?_
                        rintro e w7 ⟨v, rfl, hs7⟩
                        obtain ⟨ad', cp', rfl, _⟩ := hs7.row_slice
                        have HS7 := Lib.hid hs7.right
                        clear hs7
                        go_wp2_with fail
                        go_roundw
                        case rel => exact ⟨c + 1, by go_num, by omega, HS7.out⟩
                        case measure => simp [intOf]; omega
              · obtain rfl : c = 16 := by omega
                go_wp2_with fail
                go_roundw
                case rel => exact ⟨i + 1, cs, by go_num, by omega, by omega, HG, hsk⟩
                case measure => simp [intOf]; omega
      · have c1' : (i : Int) < len := by omega
        go_wp2_with fail
        go_ret
        exact ⟨rfl, (hsr.eq (star_comm _ _)).ends⟩
    · go_wp2_with fail
      go_ret
      exact ⟨rfl, (hsr.eq (star_comm _ _)).ends⟩
end Go.Proofs.Ytlejhnigbmgbpaa
