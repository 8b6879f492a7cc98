import Derived.Test.YtlejhnigbmgbpaaW32
import Derived.Deep.RegionHeld3
import Derived.Deep.DeepCutAuto
import Derived.Deep.CutBlock
namespace Go.Proofs.Ytlejhnigbmgbpaa
open Go.RowKit Go.Lamp

/-! WallOwn. -/
def overM (x : Ln) (ls : List Ln) (k : Nat) : List Ln := ls.mapIdx fun i l => if i < k then x else l
theorem overM_length (x : Ln) (ls : List Ln) (k : Nat) : (overM x ls k).length = ls.length := by simp [overM]
theorem overM_zero (x : Ln) (ls : List Ln) : overM x ls 0 = ls := by
  apply List.ext_getElem
  · simp [overM]
  · intro i h1 h2; simp [overM]
theorem overM_step (x : Ln) (ls : List Ln) (k : Nat) (hk : k < ls.length) : (overM x ls k).set k x = overM x ls (k + 1) := by
  apply List.ext_getElem
  · simp [overM]
  · intro i h1 h2
    rw [List.getElem_set]
    simp only [overM, List.getElem_mapIdx]
    split
    · rename_i h; subst h; rw [if_pos (by omega)]
    · rename_i h
      by_cases h3 : i < k
      · rw [if_pos h3, if_pos (by omega)]
      · rw [if_neg h3, if_neg (by omega)]
theorem row_over {W w : World} {R : HProp} {n b cap : Nat} {x : Ln} {ls : List Ln} {k : Nat} (hk : k < ls.length) (h : Sat W w (Row 50 3 (.slice (some ⟨b, 0, none⟩) n cap) n (flat Ln.cells (overM x ls k)) * R)) :
    w.frozen? ⟨b, k * 3, none⟩ = false ∧ w.frozen? ⟨b, k * 3 + 1, none⟩ = false ∧ w.frozen? ⟨b, k * 3 + 2, none⟩ = false ∧
    Sat W (((w.setCell ⟨b, k * 3, none⟩ (.int .u16 x.item)).setCell ⟨b, k * 3 + 1, none⟩ (.int .u16 x.loc)).setCell ⟨b, k * 3 + 2, none⟩ (.int .i64 x.qty)) (Row 50 3 (.slice (some ⟨b, 0, none⟩) n cap) n (flat Ln.cells (overM x ls (k + 1))) * R) := by
  obtain ⟨f0, h0⟩ := h.row_set (i := k * 3) (.int .u16 x.item)
  obtain ⟨f1, _⟩ := h.row_set (i := k * 3 + 1) (.int .u16 x.item)
  obtain ⟨f2, _⟩ := h.row_set (i := k * 3 + 2) (.int .u16 x.item)
  obtain ⟨_, h1⟩ := h0.row_set (i := k * 3 + 1) (.int .u16 x.loc)
  obtain ⟨_, h2⟩ := h1.row_set (i := k * 3 + 2) (.int .i64 x.qty)
  refine ⟨f0, f1, f2, ?_⟩
  rw [flat_set3 Ln.cells_length _ k (by rw [overM_length]; exact hk) _ _ _ x rfl, overM_step x ls k hk] at h2
  exact h2
theorem own_assign (sl : List Ln) (hn : sl.length ≤ 10) (hi : ∀ l ∈ sl, 0 ≤ l.item ∧ l.item ≤ 65535 ∧ l.qty ≤ 9223372036854775807) : ∃ err cs, assignM (newM 2) 4 sl = ((0, err), cs) ∧ WallOk cs ∧
    ((err = 1 ∧ freeM cs = 2) ∨ (err = 0 ∧ freeM cs = 1 ∧ (needsM cs 0).length = sl.length)) := by
  have hok := assignM_ok (newM_ok 2) 4 (ls := sl) (by omega) hi
  have e : newM 2 = [Cub.bare, Cub.bare] := rfl
  rw [e] at hok ⊢
  have h1 : firstIdx (isOf 4) [Cub.bare, Cub.bare] = -1 := by decide +kernel
  have h2 : firstFree [Cub.bare, Cub.bare] = 0 := by decide +kernel
  unfold assignM at hok ⊢
  rw [h1, h2] at hok ⊢
  rw [if_neg (by omega)] at hok ⊢
  cases ho : okLines sl with
  | false =>
    rw [ho] at hok
    rw [if_pos rfl] at hok ⊢
    exact ⟨1, _, rfl, hok, .inl ⟨rfl, by decide +kernel⟩⟩
  | true =>
    rw [ho] at hok
    rw [if_neg (by simp), if_neg (by omega)] at hok ⊢
    refine ⟨0, _, rfl, hok, .inr ⟨rfl, rfl, ?_⟩⟩
    have : needsM ([Cub.bare, Cub.bare].set (0 : Int).toNat ⟨true, 4, sortLn sl⟩) 0 = sortLn sl := rfl
    rw [this, (sortLn_perm sl).length_eq]

set_option maxRecDepth 100000 in
set_option maxHeartbeats 2000000 in
theorem own_walk (a : Option Addr) (len cap : Nat) (ls : List Ln) (w : World) (ho : LnOld w a len ls) (hw : LnWf ls) (hlen : len ≤ 9223372036854775807) :
    Calls Try.prog 6 #[.slice a len cap] w fun e w' => e = .returned (.bool true) ∧ Below w.heap.size w w' := by
  have hs0 : Sat w w (Old w * 1) := (Sat.start w).eq (star_emp _).symm
  have HSm := Lib.hid (fun (w1 : World) (hs1 : Sat w w1 (Old w * 1)) => small_calls a len cap ls ho hw hlen hs1)
  have hwf := small_wf hw
  have hl10 := smallLn_length ls
  generalize smallLn ls = sl at *
  obtain ⟨err, cs, hasg, hok, hend⟩ := own_assign sl hl10 hwf
  have HAs := Lib.hid hasg
  have HOk := Lib.hid hok
  have HEnd := Lib.hid hend
  have HWf := Lib.hid hwf
  clear ho hw hlen hwf hasg hok hend
  go_enter Try.func6, Try.ntmps6
  go_wp2_with fail
  refine (shown_calls hs0).mono ?_
  rintro e w1 ⟨rfl, hs1⟩
  go_wp2_with fail
  refine (HSm.out w1 hs1).mono ?_
  rintro e w2 ⟨v5, rfl, hs2⟩
  go_wp2_with fail
  refine (New_calls 2 hs2).mono ?_
  rintro e w3 ⟨p, rfl, hs3⟩
  obtain ⟨a5, c5, rfl, hc5, hm5, hat5⟩ := hs2.row_slice
  have HAt5 : Hid (sl.length = 0 ∨ ∃ b, a5 = some ⟨b, 0, none⟩) := hat5.imp id fun ⟨b, h, _⟩ => ⟨b, h⟩
  clear hat5 hs0 hs1 hs2 HSm
  go_wp2_with fail
  have hA := Assign_row 4 _ sl (by omega) HWf.out (hs3.eq (star_left_comm _ _ _))
  rw [HAs.out] at hA
  refine hA.mono ?_
  rintro e w4 ⟨rfl, hs4⟩
  clear hA hs3
  have HNd := Lib.hid (needs_calls 0 hs4)
  have hn12 := (needsM_len HOk.out 0).2.1
  generalize hms : needsM cs 0 = ms at *
  have HMs := Lib.hid hms
  clear hms hs4
  go_wp2_with fail
  refine HNd.out.mono ?_
  rintro e w5 ⟨v, rfl, hs5⟩
  obtain ⟨av, cv, rfl, hcv, hmv, hatv⟩ := hs5.row_slice
  have HAtv : Hid (ms.length = 0 ∨ ∃ b, av = some ⟨b, 0, none⟩) := hatv.imp id fun ⟨b, h, _⟩ => ⟨b, h⟩
  clear hatv
  have hsrc := row_src hs5
  have HFl : Hid ((flat Ln.cells ms).length = ms.length * 3) := flat_length Ln.cells_length ms
  go_wp2_with (at_builtin; go_must (refine append_line rfl (.tmp 29) (.tmp 30) rfl rfl (W := w) ((hs5.alloc _).row_mk (n := 0) (size := 3) (Nat.zero_le 0) (Nat.zero_le _) rfl) rfl (hsrc.mono ((Below.refl _ _).alloc (Nat.le_refl _) _)) HFl.out Ln.one (by omega) ?_))
  intro v' w6 hs6 _
  have hs7 : Sat w w6 (Row 50 3 v' ms.length (flat Ln.cells ms) * (Row 50 3 (.slice av ms.length cv) ms.length (flat Ln.cells ms) * (WallH p cs * (Row 50 3 (.slice a5 sl.length c5) sl.length (flat Ln.cells sl) * (Old w * 1))))) := by
    have := hs6
    simpa using this
  clear hs6 hs5 hsrc HNd
  obtain ⟨aw, cw, rfl, hcw, hmw, hatw⟩ := hs7.row_slice
  have HAtw : Hid (ms.length = 0 ∨ ∃ b, aw = some ⟨b, 0, none⟩) := hatw.imp id fun ⟨b, h, _⟩ => ⟨b, h⟩
  clear hatw
  have hs8 := hs7.eq (by ac_rfl : _ = Row 50 3 (.slice a5 sl.length c5) sl.length (flat Ln.cells sl) * (Row 50 3 (.slice aw ms.length cw) ms.length (flat Ln.cells ms) * (Row 50 3 (.slice av ms.length cv) ms.length (flat Ln.cells ms) * (WallH p cs * (Old w * 1)))))
  have HS8 := Lib.hid hs8
  clear hs7 hs8
  go_wp2_with fail
  go_loopw [10] (fun vi wr => ∃ i : Nat, vi = .int .i64 i ∧ i ≤ sl.length ∧ Sat w wr (Row 50 3 (.slice a5 sl.length c5) sl.length (flat Ln.cells (overM ⟨40, 0, 1⟩ sl i)) * (Row 50 3 (.slice aw ms.length cw) ms.length (flat Ln.cells ms) * (Row 50 3 (.slice av ms.length cv) ms.length (flat Ln.cells ms) * (WallH p cs * (Old w * 1)))))) (fun vi _ => (sl.length - intOf vi).toNat)
  case atStart => exact ⟨0, rfl, by omega, by rw [overM_zero]; exact HS8.out⟩
  case round =>
    obtain ⟨i, rfl, hi, hsr⟩ := hrel
    by_cases hlt : i < sl.length
    · rcases HAt5.out with h0 | ⟨b, rfl⟩
      · omega
      · have hat := LnAt.of_row' hsr
        obtain ⟨e0, e1, e2⟩ := hat i (by rw [overM_length]; exact hlt)
        obtain ⟨f0, f1, f2, hst⟩ := row_over hlt hsr
        have HSt := Lib.hid hst
        clear hat hsr hst
        go_wp2_with fail
        go_roundw
        case rel => exact ⟨i + 1, by go_num, by omega, HSt.out⟩
        case measure => simp [intOf]; omega
    · obtain rfl : i = sl.length := by omega
      have hs9 := hsr.eq (by ac_rfl : _ = Row 50 3 (.slice av ms.length cv) ms.length (flat Ln.cells ms) * (Row 50 3 (.slice aw ms.length cw) ms.length (flat Ln.cells ms) * (WallH p cs * (Row 50 3 (.slice a5 sl.length c5) sl.length (flat Ln.cells (overM ⟨40, 0, 1⟩ sl sl.length)) * (Old w * 1)))))
      have HS9 := Lib.hid hs9
      clear hsr hs9 HS8
      go_wp2_with fail
      go_loopw [11] (fun vi wr => ∃ i : Nat, vi = .int .i64 i ∧ i ≤ ms.length ∧ Sat w wr (Row 50 3 (.slice av ms.length cv) ms.length (flat Ln.cells (overM ⟨0, 0, 0⟩ ms i)) * (Row 50 3 (.slice aw ms.length cw) ms.length (flat Ln.cells ms) * (WallH p cs * (Row 50 3 (.slice a5 sl.length c5) sl.length (flat Ln.cells (overM ⟨40, 0, 1⟩ sl sl.length)) * (Old w * 1)))))) (fun vi _ => (ms.length - intOf vi).toNat)
      case atStart => exact ⟨0, rfl, by omega, by rw [overM_zero]; exact HS9.out⟩
      case round =>
        obtain ⟨i, rfl, hi, hsr⟩ := hrel
        by_cases hlt : i < ms.length
        · rcases HAtv.out with h0 | ⟨b, rfl⟩
          · omega
          · have hat := LnAt.of_row' hsr
            obtain ⟨e0, e1, e2⟩ := hat i (by rw [overM_length]; exact hlt)
            obtain ⟨f0, f1, f2, hst⟩ := row_over hlt hsr
            have HSt := Lib.hid hst
            clear hat hsr hst
            go_wp2_with fail
            go_roundw
            case rel => exact ⟨i + 1, by go_num, by omega, HSt.out⟩
            case measure => simp [intOf]; omega
        · obtain rfl : i = ms.length := by omega
          have hs10 := hsr.right.eq (star_left_comm _ _ _)
          have HNd2 := Lib.hid (needs_calls 0 hs10)
          rw [HMs.out] at HNd2
          clear hsr hs10 HS9
          go_wp2_with fail
          refine HNd2.out.mono ?_
          rintro e w7 ⟨v3, rfl, hs11⟩
          obtain ⟨ab, cb, rfl, hcb, hmb, hatb⟩ := hs11.row_slice
          have HAtb : Hid (ms.length = 0 ∨ ∃ b, ab = some ⟨b, 0, none⟩) := hatb.imp id fun ⟨b, h, _⟩ => ⟨b, h⟩
          have HS11 := Lib.hid hs11
          clear hatb hs11
          go_wp2_with fail
          go_loopw [13] (fun vi wr => ∃ i : Nat, vi = .int .i64 i ∧ i ≤ ms.length ∧ Sat w wr (Row 50 3 (.slice ab ms.length cb) ms.length (flat Ln.cells ms) * (WallH p cs * (Row 50 3 (.slice aw ms.length cw) ms.length (flat Ln.cells ms) * (Row 50 3 (.slice a5 sl.length c5) sl.length (flat Ln.cells (overM ⟨40, 0, 1⟩ sl sl.length)) * (Old w * 1)))))) (fun vi _ => (ms.length - intOf vi).toNat)
          case atStart => exact ⟨0, rfl, by omega, HS11.out⟩
          case round =>
            obtain ⟨i, rfl, hi, hsr⟩ := hrel
            by_cases hlt : i < ms.length
            · have HSr : Hid (∀ m, Sat w (wr.drewN m) (Row 50 3 (.slice ab ms.length cb) ms.length (flat Ln.cells ms) * (WallH p cs * (Row 50 3 (.slice aw ms.length cw) ms.length (flat Ln.cells ms) * (Row 50 3 (.slice a5 sl.length c5) sl.length (flat Ln.cells (overM ⟨40, 0, 1⟩ sl sl.length)) * (Old w * 1)))))) := fun m => hsr.drewN m
              rcases HAtb.out with h0 | ⟨b, rfl⟩
              · omega
              · rcases HAtw.out with h0 | ⟨b2, rfl⟩
                · omega
                · have k0 : (0 : Int) ≤ i := by omega
                  have k1 : (i : Int) < ms.length := by omega
                  obtain ⟨e0, e1, e2⟩ := LnAt.of_row' hsr i hlt
                  obtain ⟨g0, g1, g2⟩ := LnAt.of_row' hsr.right.right i hlt
                  clear hsr
                  go_wp2_with fail
                  go_quiet (fail)
                  go_wp2_with fail
                  go_roundw
                  case rel => exact ⟨i + 1, by go_num, by omega, HSr.out _⟩
                  case measure => simp [intOf]; omega
            · obtain rfl : i = ms.length := by omega
              have HFr := Lib.hid (Free_calls (hsr.right))
              have HE : Hid (∀ w', Below wr.heap.size wr w' → Below w.heap.size w w') := fun w' hb => (hsr.right.right.right.right.below hb).ends
              clear hsr HS11 HNd2
              rcases HEnd.out with ⟨rfl, hf⟩ | ⟨rfl, hf, hl⟩
              · rw [hf] at HFr
                clear hf
                go_wp2_with fail
                refine HFr.out.mono ?_
                rintro e w8 ⟨rfl, hb8⟩
                go_wp2_with fail
                go_ret
                exact ⟨rfl, HE.out _ hb8⟩
              · rw [hf] at HFr
                have HL := Lib.hid hl
                have hl1 : (ms.length == sl.length) = true := by simpa using hl
                have hl2 : ((ms.length : Int) == (sl.length : Int)) = true := by simp [hl]
                clear hf hl
                go_wp2_with fail
                refine HFr.out.mono ?_
                rintro e w8 ⟨rfl, hb8⟩
                go_wp2_with fail
                go_ret
                exact ⟨rfl, HE.out _ hb8⟩
end Go.Proofs.Ytlejhnigbmgbpaa
