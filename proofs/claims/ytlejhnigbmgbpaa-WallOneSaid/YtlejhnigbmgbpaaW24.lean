import Derived.Test.YtlejhnigbmgbpaaW23
import Derived.Deep.RegionHeld3
import Derived.Deep.DeepCutAuto
import Derived.Deep.CutBlock
namespace Go.Proofs.Ytlejhnigbmgbpaa
open Go.RowKit Go.Lamp

set_option maxRecDepth 100000 in
set_option maxHeartbeats 8000000 in
theorem one_walk (a0 : Int) (a : Option Addr) (len cap : Nat) (ss : List Stp) (w : World) (ho : StpOld w a len ss) (hlen : len ≤ 9223372036854775807) :
    Calls Try.prog 4 #[.int .i64 a0, .slice a len cap] w fun e w' => e = .returned (.bool true) ∧ Below w.heap.size w w' := by
  have hs0 := Sat.start w
  have HO : Hid (StpOld w a len ss) := ho
  have HLen := Lib.hid hlen
  obtain ⟨n, hn⟩ : ∃ n : Nat, n = (newM a0).length := ⟨_, rfl⟩
  have hn2 : (n : Int) = min (max a0 1) 16 := by rw [hn]; simp [newM]; omega
  have HN := Lib.hid hn
  have HN2 := Lib.hid hn2
  have n1 : 1 ≤ n := by omega
  have n2 : n ≤ 16 := by omega
  clear ho hlen hn hn2
  go_enter Try.func4, Try.ntmps4
  go_wp2_with fail
  refine (shown_calls hs0).mono ?_
  rintro e w1 ⟨rfl, hs1⟩
  go_wp2_with fail
  refine (New_calls a0 hs1).mono ?_
  rintro e w2 ⟨p, rfl, hs2⟩
  have HS2 := Lib.hid hs2
  clear hs2 hs1 hs0
  go_upto_region 5 with (fail)
  go_cut [7] (fun v wc => v = .int .i64 n ∧ w2 = wc)
  case first =>
    go_wp2_with fail
    all_goals
      go_meet
      have h2 := HN2.out
      exact ⟨by congr 1; omega, rfl⟩
  case rest =>
    obtain ⟨rfl, rfl⟩ := hcut
    go_wp2_with fail
    go_loopw [8] (fun vi wr => ∃ i : Nat, ∃ cubs : List Cub, vi = .int .i64 i ∧ i ≤ 200 ∧ i ≤ len ∧ Hid (WallGood cubs n) ∧ Sat w wr (WallH p cubs * Old w)) (fun vi _ => (200 - intOf vi).toNat)
    case atStart => exact ⟨0, newM a0, rfl, by omega, by omega, by unfold Hid; rw [HN.out]; exact newM_good a0, HS2.out⟩
    case round =>
      obtain ⟨i, cubs, rfl, hi200, hil, hc, hsr⟩ := hrel
      by_cases c1 : i < len
      · by_cases c2 : i < 200
        · have c1' : (i : Int) < len := by omega
          have c2' : (i : Int) < 200 := by omega
          rcases HO.out.2.2 with h0 | ⟨b, off, rfl, hcs⟩
          · omega
          · have hl := HO.out.1
            obtain ⟨q0, q1, q2, q3, q4, q5⟩ := hcs i (by omega)
            have hok := HO.out.2.1 _ (List.getElem_mem (by omega : i < ss.length))
            have hso := (hsr.eq (star_comm _ _))
            have d0 := hso.old_cell q0
            have d1 := hso.old_cell q1
            have d2 := hso.old_cell q2
            have d3 := hso.old_cell q3
            have d4 := hso.old_cell q4
            have d5 := hso.old_cell q5
            have hLn := HLen.out
            generalize hx : ss[i]'(by omega) = x at *
            have HX := Lib.hid hx
            have HXOk : Hid (x.Ok w) := hok
            clear hcs hso hok hx
            go_wp2_with fail
            have hs3 := hsr.alloc (.cells #[.int .i64 x.kind, .int .i64 x.cubby, .int .i64 x.qty, .int .u32 x.id, .int .u16 x.item, .slice x.la x.ln x.lc] 39)
            refine (Free_calls (hs3.eq (star_left_comm _ _ _))).mono ?_
            rintro e w4 ⟨rfl, hb4⟩
            have hs4 := hs3.below hb4
            generalize hX : wr.heap.size = X at *
            clear hs3 hb4 d0 d1 d2 d3 d4 d5 q0 q1 q2 q3 q4 q5
            have d0 := hs4.cellAt (i := 0) (v := .int .i64 x.kind) rfl
            have d1 := hs4.cellAt (i := 1) (v := .int .i64 x.cubby) rfl
            have d2 := hs4.cellAt (i := 2) (v := .int .i64 x.qty) rfl
            have d3 := hs4.cellAt (i := 3) (v := .int .u32 x.id) rfl
            have d4 := hs4.cellAt (i := 4) (v := .int .u16 x.item) rfl
            have d5 := hs4.cellAt (i := 5) (v := .slice x.la x.ln x.lc) rfl
            have hb31 := and31 x.item HXOk.out.item0 HXOk.out.item1
            go_upto_block 2 with (fail)
            go_cut [] (fun wc => Sat w wc (StpB X x * (WallH p (stepM cubs x) * Old w)))
            case first =>
              by_cases k01 : x.kind = 0 ∨ x.kind = 1
              · have HStep : Hid (stepM cubs x = (assignM cubs x.id (smallLn x.ls)).2) := by unfold Hid stepM; rw [if_pos k01]
                have kb : (x.kind == 0) = true ∨ (x.kind == 0) = false ∧ (x.kind == 1) = true := by rcases k01 with k | k <;> simp [k]
                clear k01
                rcases kb with b0 | ⟨b0, b1⟩
                all_goals
                  go_wp2_with fail
                  have hsd : Sat w w4.drew (StpB X x * (WallH p cubs * Old w)) := hs4.drew
                  go_region_held3 (fun w' => w'.cell? ⟨X, 3, none⟩ = some (.int .u32 x.id) ∧ w'.cell? ⟨X, 5, none⟩ = some (.slice x.la x.ln x.lc))
                    (first | exact ⟨d3, d5⟩ | exact ⟨h63, h65⟩ | exact ⟨h53, h55⟩)
                    (first
                      | (go_at_call 14; refine (small_calls (R := StpB X x * WallH p cubs) x.la x.ln x.lc x.ls HXOk.out.old HXOk.out.wf HXOk.out.len (hsd.eq (by ac_rfl))).mono ?_; rintro e w5 ⟨v5, rfl, hs5⟩; have hl5 : Sat w w5 (LnR v5 (smallLn x.ls) * (Old w * (StpB X x * WallH p cubs))) := hs5; have hq5 := (hl5.eq (by ac_rfl : _ = StpB X x * (LnR v5 (smallLn x.ls) * (Old w * WallH p cubs)))); have h53 := hq5.cellAt (i := 3) (v := .int .u32 x.id) rfl; have h55 := hq5.cellAt (i := 5) (v := .slice x.la x.ln x.lc) rfl)
                      | (go_at_call 11; refine (Assign_row x.id _ (smallLn x.ls) (Nat.le_trans (smallLn_length _) (by omega)) (small_wf HXOk.out.wf) (hl5.eq (by ac_rfl : _ = LnR v5 (smallLn x.ls) * (WallH p cubs * (StpB X x * Old w))))).mono ?_; rintro e w6 ⟨rfl, hs6⟩; have hl6 : Sat w w6 (WallH p (assignM cubs x.id (smallLn x.ls)).2 * (LnR v5 (smallLn x.ls) * (StpB X x * Old w))) := hs6; have hq6 := (hl6.eq (by ac_rfl : _ = StpB X x * (WallH p (assignM cubs x.id (smallLn x.ls)).2 * (Old w * LnR v5 (smallLn x.ls))))); have h63 := hq6.cellAt (i := 3) (v := .int .u32 x.id) rfl; have h65 := hq6.cellAt (i := 5) (v := .slice x.la x.ln x.lc) rfl))
                  rename_i hheld
                  have hcase := assign_cases cubs x.id (smallLn x.ls)
                  have HFr := Lib.hid (Free_calls (hq6.eq (star_left_comm _ _ _)))
                  have HQ6 := Lib.hid hq6
                  clear hq6 hl6 hs6 h63 h65 hq5 hl5 hs5 h53 h55 hheld hsd d0 d1 d2 d3 d4 d5
                  generalize hr : assignM cubs x.id (smallLn x.ls) = r at *
                  clear hr
                  obtain ⟨⟨r1, r2⟩, r3⟩ := r
                  have hf0 : 0 ≤ freeM cubs := by unfold freeM; omega
                  have hf1 : freeM cubs ≤ 16 := by have h1 := List.length_filter_le (fun c : Cub => !c.held) cubs; have h2 := hc.out.2.1; unfold freeM; omega
                  simp only at hcase HFr HQ6 HStep ⊢
                  rcases hcase with ⟨rfl, e1, e2⟩ | ⟨e0, rfl⟩
                  · rw [e1] at HFr
                    generalize freeM cubs = f at *
                    have f1 : (f == 0) = false := by simpa using e2
                    have hw : IntKind.i64.wrap (f - 1) = f - 1 := by rw [IntKind.wrap_i64]; omega
                    have hf3 : 1 ≤ f := by omega
                    clear hf0 e1 e2 hb31
                    go_wp2_with fail
                    refine HFr.out.mono ?_
                    rintro e w7 ⟨rfl, hb7⟩
                    have hs7 := HQ6.out.below hb7
                    have HS7 := Lib.hid hs7
                    clear hs7 hb7
                    go_wp2_with fail
                    all_goals
                      go_meet
                      rw [HStep.out]
                      exact (HS7.out.eq (by ac_rfl : _ = LnR v5 (smallLn x.ls) * (StpB X x * (WallH p r3 * Old w)))).right
                  · generalize hgf : freeM r3 = f at *
                    have f0 : (r2 == 0) = false := by simpa using e0
                    have f1 : (f == 0) = true ∨ (f == 0) = false := by cases (f == 0) <;> simp
                    clear hf0 hf1 hgf hb31
                    rcases f1 with f1 | f1
                    all_goals
                      go_wp2_with fail
                      refine HFr.out.mono ?_
                      rintro e w7 ⟨rfl, hb7⟩
                      have hs7 := HQ6.out.below hb7
                      have HS7 := Lib.hid hs7
                      clear hs7 hb7
                      go_wp2_with fail
                      all_goals
                        go_meet
                        rw [HStep.out]
                        exact (HS7.out.eq (by ac_rfl : _ = LnR v5 (smallLn x.ls) * (StpB X x * (WallH p r3 * Old w)))).right
              · have b0 : (x.kind == 0) = false := by simpa using fun h => k01 (.inl h)
                have b1 : (x.kind == 1) = false := by simpa using fun h => k01 (.inr h)
                by_cases k24 : x.kind = 2 ∨ x.kind = 3 ∨ x.kind = 4
                · have HStep : Hid (stepM cubs x = (putM cubs x.cubby (x.item % 32) x.qty).2) := by unfold Hid stepM; rw [if_neg k01, if_pos k24]
                  have kb : (x.kind == 2) = true ∨ (x.kind == 2) = false ∧ ((x.kind == 3) = true ∨ (x.kind == 3) = false ∧ (x.kind == 4) = true) := by rcases k24 with k | k | k <;> simp [k]
                  have HC := Lib.hid (Put_calls x.cubby (x.item % 32) x.qty (hs4.eq (star_left_comm _ _ _)) HXOk.out.qty)
                  clear k01 k24
                  rcases kb with b2 | ⟨b2, b3 | ⟨b3, b4⟩⟩
                  all_goals
                    go_wp2_with fail
                    refine HC.out.mono ?_
                    rintro e w7 ⟨rfl, hs7⟩
                    have HS7 := Lib.hid hs7
                    clear hs7
                    go_wp2_with fail
                    go_meet
                    rw [HStep.out]
                    exact HS7.out.eq (star_left_comm _ _ _)
                · have b2 : (x.kind == 2) = false := by simpa using fun h => k24 (.inl h)
                  have b3 : (x.kind == 3) = false := by simpa using fun h => k24 (.inr (.inl h))
                  have b4 : (x.kind == 4) = false := by simpa using fun h => k24 (.inr (.inr h))
                  by_cases k5 : x.kind = 5
                  · have HStep : Hid (stepM cubs x = (lessM cubs x.id (x.item % 32) x.qty).2) := by unfold Hid stepM; rw [if_neg k01, if_neg k24, if_pos k5]
                    have HC := Lib.hid (Less_calls x.id (x.item % 32) x.qty (hs4.eq (star_left_comm _ _ _)) HXOk.out.qty)
                    have b5 : (x.kind == 5) = true := by simpa using k5
                    clear k01 k24 k5
                    go_wp2_with fail
                    refine HC.out.mono ?_
                    rintro e w7 ⟨rfl, hs7⟩
                    have HS7 := Lib.hid hs7
                    clear hs7
                    go_wp2_with fail
                    go_meet
                    rw [HStep.out]
                    exact HS7.out.eq (star_left_comm _ _ _)
                  · have b5 : (x.kind == 5) = false := by simpa using k5
                    by_cases k6 : x.kind = 6
                    · have HStep : Hid (stepM cubs x = (releaseM cubs x.cubby).2) := by unfold Hid stepM; rw [if_neg k01, if_neg k24, if_neg k5, if_pos k6]
                      have HC := Lib.hid (Release_calls x.cubby (hs4.eq (star_left_comm _ _ _)))
                      have b6 : (x.kind == 6) = true := by simpa using k6
                      clear k01 k24 k5 k6
                      go_wp2_with fail
                      refine HC.out.mono ?_
                      rintro e w7 ⟨rfl, hs7⟩
                      have HS7 := Lib.hid hs7
                      clear hs7
                      go_wp2_with fail
                      go_meet
                      rw [HStep.out]
                      exact HS7.out.eq (star_left_comm _ _ _)
                    · have HStep : Hid (stepM cubs x = cubs) := by unfold Hid stepM; rw [if_neg k01, if_neg k24, if_neg k5, if_neg k6]
                      have b6 : (x.kind == 6) = false := by simpa using k6
                      clear k01 k24 k5 k6
                      have HS4 := Lib.hid hs4
                      clear hs4
                      go_wp2_with fail
                      go_meet
                      rw [HStep.out]
                      exact HS4.out
            case rest =>
              have hsr5 := hcut.right
              have HG : Hid (WallGood (stepM cubs x) n) := stepM_good hc.out HXOk.out.wf
              generalize stepM cubs x = cs at *
              clear hcut d0 d1 d2 d3 d4 d5 hs4 hb31 HX HXOk hsr hc
              go_wp2_with fail
              have hcl := HG.out.2.1
              go_loopw [13, 14] (fun vh vk wr => ∃ k : Nat, vk = .int .i64 k ∧ vh = .int .i64 (heldN cs k) ∧ k ≤ n ∧ Sat w wr (WallH p cs * Old w)) (fun _ vk _ => (n - intOf vk).toNat)
              case atStart => exact ⟨0, rfl, rfl, by omega, hsr5⟩
              case round =>
                obtain ⟨k, rfl, rfl, hkn, hsk⟩ := hrel
                by_cases ck : k < n
                · have ck' : (k : Int) < n := by omega
                  have hkc : k < cs.length := by omega
                  have hns := heldN_succ hkc
                  have hle := heldN_le cs k
                  have hO := order_calls k hsk
                  rw [orderM_in hkc] at hO
                  cases hh : cs[k].held
                  · rw [hh] at hO hns
                    have HOrd := Lib.hid hO
                    have HNs := Lib.hid hns
                    have HH := Lib.hid hh
                    clear hO hns hh
                    go_wp2_with fail
                    refine HOrd.out.mono ?_
                    rintro e wk ⟨rfl, rfl⟩
                    go_wp2_with fail
                    go_roundw
                    case rel => exact ⟨k + 1, by go_num, by rw [HNs.out]; simp, by omega, hsk⟩
                    case measure => simp [intOf]; omega
                  · have hC := cubby_calls cs[k].order hsk
                    unfold cubbyM at hC
                    rw [sole_first HG.out.2.2 hkc hh] at hC
                    rw [show max (k : Int) 0 = k by omega, show decide ((0 : Int) ≤ k) = true by simp] at hC
                    rw [hh] at hO hns
                    have HOrd := Lib.hid hO
                    have HC := Lib.hid hC
                    have HNs := Lib.hid hns
                    have HH := Lib.hid hh
                    clear hO hns hh hC
                    go_wp2_with fail
                    refine HOrd.out.mono ?_
                    rintro e wk ⟨rfl, rfl⟩
                    generalize heldN cs k = h at *
                    go_wp2_with fail
                    refine HC.out.mono ?_
                    rintro e wm ⟨rfl, hbm⟩
                    have HSm := Lib.hid (hsk.below hbm)
                    go_wp2_with fail
                    go_roundw
                    case rel => exact ⟨k + 1, by go_num, by rw [HNs.out]; simp, by omega, HSm.out⟩
                    case measure => simp [intOf]; omega
                · obtain rfl : k = n := by omega
                  have hF := Free_calls hsk
                  have hall := heldN_all cs
                  rw [hcl] at hall
                  have hle := heldN_le cs k
                  rw [hall]
                  have hf0 : 0 ≤ freeM cs := by unfold freeM; omega
                  generalize freeM cs = f at *
                  have hw : IntKind.i64.wrap ((k : Int) - f) = (k : Int) - f := by rw [IntKind.wrap_i64]; omega
                  have HF := Lib.hid hF
                  have HSk := Lib.hid hsk
                  have hf1 : f ≤ (k : Int) := by omega
                  clear hF hall hsk hle
                  go_wp2_with fail
                  refine HF.out.mono ?_
                  rintro e wf ⟨rfl, hbf⟩
                  have HSf := Lib.hid (HSk.out.below hbf)
                  clear hbf
                  go_wp2_with fail
                  go_roundw
                  case rel => exact ⟨i + 1, cs, by go_num, by omega, by omega, HG, HSf.out⟩
                  case measure => simp [intOf]; omega
        · have c1' : (i : Int) < len := by omega
          go_wp2_with fail
          go_ret
          exact ⟨rfl, (hsr.eq (star_comm _ _)).ends⟩
      · go_wp2_with fail
        go_ret
        exact ⟨rfl, (hsr.eq (star_comm _ _)).ends⟩
end Go.Proofs.Ytlejhnigbmgbpaa
