import Derived.Deep.Light
import Derived.Test.YtlejhnigbmgbpaaW38
import Derived.Test.YtlejhnigbmgbpaaW29
namespace Go.Proofs.Ytlejhnigbmgbpaa
open Go.RowKit Go.Lamp
set_option linter.unusedVariables false

/-! WallTells. -/
def TellsAt (W : World) (X p q n : Nat) (x : Stp) (w : World) : Prop := ∃ cs r, Hid (Both cs r n) ∧ Sat W w (StpB X x * (WallH p cs * (RefH q n r * Old W)))

section
variable {W w : World} {q n : Nat} {r : Ref} {R : HProp} {cubs : List Cub}
theorem Both.cubby (h : Both cubs r n) (id : Int) : ∃ ck cb, cubbyM cubs id = (ck, cb) ∧ ((cb = true ∧ cubbyR r id = ck ∧ 0 ≤ ck) ∨ (cb = false ∧ (∃ m, cubbyR r id = m ∧ m < 0) ∧ ck = 0)) := by
  have h1 := h.2.cubby h.1.2.2 id
  have h2 := firstIdx_bound (isOf id) cubs
  refine ⟨max (firstIdx (isOf id) cubs) 0, decide (0 ≤ firstIdx (isOf id) cubs), rfl, ?_⟩
  rw [h1]
  generalize firstIdx (isOf id) cubs = f at *
  by_cases h3 : 0 ≤ f
  · exact .inl ⟨by simpa using h3, by omega, by omega⟩
  · exact .inr ⟨by simpa using h3, ⟨f, rfl, by omega⟩, by omega⟩
theorem cubby_as {p : Nat} {order k : Int} {b : Bool} (h : cubbyM cubs order = (k, b)) (hs : Sat W w (WallH p cubs * R)) :
    Calls Try.prog 18 #[.pointer (some ⟨p, 0, none⟩), .int .u32 order] w fun e w' => e = .returned (.tuple #[.int .i64 k, .bool b]) ∧ Below w.heap.size w w' := by
  have h2 := cubby_calls order hs
  rw [h] at h2
  exact h2
theorem rcubby_as {order k : Int} (h : cubbyR r order = k) (hb : Bounded r) (hs : Sat W w (RefH q n r * R)) :
    Calls Try.prog 27 #[.pointer (some ⟨q, 0, none⟩), .int .u32 order] w fun e w' => e = .returned (.int .i64 k) ∧ w = w' := by
  have h2 := rcubby_calls order hb hs
  rw [h] at h2
  exact h2
theorem Free_as {p : Nat} {k : Int} (h : freeM cubs = k) (hs : Sat W w (WallH p cubs * R)) :
    Calls Try.prog 13 #[.pointer (some ⟨p, 0, none⟩)] w fun e w' => e = .returned (.int .i64 k) ∧ Below w.heap.size w w' := by
  have h2 := Free_calls hs
  rw [h] at h2
  exact h2
/-- The worlds in which the region after Cubby goes on. -/
theorem tells_class {W w : World} {X p q n : Nat} {x : Stp} {cs : List Cub} {r : Ref} {m fr : Int} (hs : Sat W w (StpB X x * (WallH p cs * (RefH q n r * Old W)))) (hb : Bounded r) (hc : cubbyR r x.id = m) (hf : freeM cs = fr) :
    ∃ (Ix : Type) (F : Ix → World) (pa : Option Addr) (pc : Nat), (∃ k, ({ w with drawn := w.drawn + 1 } : World) = F k) ∧ Nonempty Ix ∧ (∀ k, (F k).cell? ⟨X, 3, none⟩ = some (.int .u32 x.id)) ∧ (∀ k, (F k).cell? ⟨q, 0, none⟩ = some (.int .i64 n)) ∧ (∀ k, (F k).cell? ⟨q, 1, none⟩ = some (.slice pa r.ps.length pc)) ∧
    (∀ k, Calls Try.prog 27 #[.pointer (some ⟨q, 0, none⟩), .int .u32 x.id] (F k) fun e w' => e = .returned (.int .i64 m) ∧ ∃ k', w' = F k') ∧
    (∀ k, Calls Try.prog 13 #[.pointer (some ⟨p, 0, none⟩)] (F k) fun e w' => e = .returned (.int .i64 fr) ∧ ∃ k', w' = F k') ∧
    (∀ k, Sat W (F k) (WallH p cs * (RefH q n r * Old W))) := by
  obtain ⟨pa, pc, la, lc, hs1, _, _, _, _, _⟩ := RefH.open (hs.eq (by ac_rfl : _ = RefH q n r * (StpB X x * (WallH p cs * Old W))))
  have hsd : Sat W { w with drawn := w.drawn + 1 } (RefS q n (.slice pa r.ps.length pc) (.slice la r.ds.length lc) * (PlR (.slice pa r.ps.length pc) r.ps * (NdR (.slice la r.ds.length lc) r.ds * (StpB X x * (WallH p cs * Old W))))) := hs1.drew
  refine ⟨{ w' : World // Sat W w' (RefS q n (.slice pa r.ps.length pc) (.slice la r.ds.length lc) * (PlR (.slice pa r.ps.length pc) r.ps * (NdR (.slice la r.ds.length lc) r.ds * (StpB X x * (WallH p cs * Old W))))) }, Subtype.val, pa, pc, ⟨⟨_, hsd⟩, rfl⟩, ⟨⟨_, hsd⟩⟩, fun k => ?_, fun k => ?_, fun k => ?_, fun k => ?_, fun k => ?_, fun k => ?_⟩
  · exact (k.2.eq (by ac_rfl : _ = StpB X x * (RefS q n (.slice pa r.ps.length pc) (.slice la r.ds.length lc) * (PlR (.slice pa r.ps.length pc) r.ps * (NdR (.slice la r.ds.length lc) r.ds * (WallH p cs * Old W)))))).cellAt (i := 3) rfl
  · exact k.2.cellAt (i := 0) rfl
  · exact k.2.cellAt (i := 1) rfl
  · refine (rcubby_as hc hb (RefH.shut k.2)).mono ?_
    rintro e w' ⟨rfl, rfl⟩
    exact ⟨rfl, k, rfl⟩
  · refine (Free_as hf (k.2.eq (by ac_rfl : _ = WallH p cs * (RefS q n (.slice pa r.ps.length pc) (.slice la r.ds.length lc) * (PlR (.slice pa r.ps.length pc) r.ps * (NdR (.slice la r.ds.length lc) r.ds * (StpB X x * Old W))))))).mono ?_
    rintro e w' ⟨rfl, hb'⟩
    exact ⟨rfl, ⟨w', k.2.below hb'⟩, rfl⟩
  · exact ((RefH.shut k.2).eq (by ac_rfl : _ = StpB X x * (WallH p cs * (RefH q n r * Old W)))).right
end

set_option maxRecDepth 100000 in
set_option maxHeartbeats 8000000 in
theorem tells_walk (a0 : Int) (a : Option Addr) (len cap : Nat) (ss : List Stp) (w : World) (ho : StpOld w a len ss) (hlen : len ≤ 9223372036854775807) :
    Calls Try.prog 7 #[.int .i64 a0, .slice a len cap] w fun e w' => e = .returned (.bool true) ∧ Below w.heap.size w w' := by
  have hs0 := Sat.start w
  have HO : Hid (StpOld w a len ss) := ho
  have HLen := Lib.hid hlen
  obtain ⟨n, hn⟩ : ∃ n : Nat, n = (newM a0).length := ⟨_, rfl⟩
  have hn16 : n ≤ 16 := by rw [hn]; exact (newM_ok a0).2.1
  have HN := Lib.hid hn
  clear ho hlen hn
  go_enter Try.func7, Try.ntmps7
  go_wp2_with fail
  refine (shown_calls hs0).mono ?_
  rintro e w1 ⟨rfl, hs1⟩
  go_wp2_with fail
  refine (New_calls a0 hs1).mono ?_
  rintro e w2 ⟨p, rfl, hs2⟩
  go_wp2_with fail
  have hA := rnew_calls a0 hs2
  rw [← HN.out] at hA
  refine hA.mono ?_
  rintro e w3 ⟨q, rfl, hs3⟩
  have HS3 := Lib.hid (hs3.eq (star_left_comm _ _ _))
  clear hs3 hs2 hs1 hs0 hA
  go_wp2_with fail
  go_loopw [8] (fun vi wr => ∃ i : Nat, ∃ cubs r, vi = .int .i64 i ∧ i ≤ 200 ∧ i ≤ len ∧ Hid (Both cubs r n) ∧ Sat w wr (WallH p cubs * (RefH q n r * Old w))) (fun vi _ => (200 - intOf vi).toNat)
  case atStart => exact ⟨0, newM a0, ⟨[], []⟩, rfl, by omega, by omega, by unfold Hid; rw [HN.out]; exact ⟨newM_good a0, Rel.new a0⟩, HS3.out⟩
  case round =>
    obtain ⟨i, cubs, r, rfl, hi200, hil, hc, hsr⟩ := hrel
    by_cases c1 : i < len
    · by_cases c2 : i < 200
      · have c1' : (i : Int) < len := by omega
        have c2' : (i : Int) < 200 := by omega
        rcases HO.out.2.2 with h0 | ⟨b, off, rfl, hcs⟩
        · omega
        · have hl := HO.out.1
          obtain ⟨q0, q1, q2, q3, q4, q5⟩ := hcs i (by omega)
          have hok := HO.out.2.1 _ (List.getElem_mem (by omega : i < ss.length))
          have hso := (hsr.eq (by ac_rfl : _ = Old w * (WallH p cubs * RefH q n r)))
          have d0 := hso.old_cell q0
          have d1 := hso.old_cell q1
          have d2 := hso.old_cell q2
          have d3 := hso.old_cell q3
          have d4 := hso.old_cell q4
          have d5 := hso.old_cell q5
          have hLn := HLen.out
          generalize hx : ss[i]'(by omega) = x at *
          have HXOk : Hid (x.Ok w) := hok
          have hs4 := hsr.alloc (.cells #[.int .i64 x.kind, .int .i64 x.cubby, .int .i64 x.qty, .int .u32 x.id, .int .u16 x.item, .slice x.la x.ln x.lc] 39)
          have HS4 := Lib.hid hs4
          clear hcs hso hok hx hs4 q0 q1 q2 q3 q4 q5
          generalize hX : wr.heap.size = X at *
          go_upto_block 2 with (fail)
          clear d0 d1 d2 d3 d4 d5
          have hs4 := HS4.out
          clear HS4
          generalize wr.alloc (.cells #[.int .i64 x.kind, .int .i64 x.cubby, .int .i64 x.qty, .int .u32 x.id, .int .u16 x.item, .slice x.la x.ln x.lc] 39) = w4 at *
          have d0 := hs4.cellAt (i := 0) (v := .int .i64 x.kind) rfl
          have d1 := hs4.cellAt (i := 1) (v := .int .i64 x.cubby) rfl
          have d2 := hs4.cellAt (i := 2) (v := .int .i64 x.qty) rfl
          have d3 := hs4.cellAt (i := 3) (v := .int .u32 x.id) rfl
          have d4 := hs4.cellAt (i := 4) (v := .int .u16 x.item) rfl
          have d5 := hs4.cellAt (i := 5) (v := .slice x.la x.ln x.lc) rfl
          have hb31 := and31 x.item HXOk.out.item0 HXOk.out.item1
          have HB1 := Lib.hid (hc.out.2.bounded hc.out.1.1)
          have HB2 := Lib.hid (hc.out.2.qty hc.out.1.1)
          clear hsr
          go_cut [10] (fun v wc => v = .bool true ∧ TellsAt w X p q n x wc)
          case first =>
            by_cases k01 : x.kind = 0 ∨ x.kind = 1
            · obtain ⟨ak, ae, cs, r', hA1, hA2, hG⟩ := hc.out.assign x.id HXOk.out.wf
              have HA1 := Lib.hid hA1
              have HA2 := Lib.hid hA2
              have HG : Hid (Both cs r' n) := hG
              have kb : (x.kind == 0) = true ∨ (x.kind == 0) = false ∧ (x.kind == 1) = true := by rcases k01 with k | k <;> simp [k]
              clear k01 hA1 hA2 hG
              rcases kb with b0 | ⟨b0, b1⟩
              all_goals
                as_aux_lemma =>
                  go_wp2_with fail
                  have hsd : Sat w w4.drew (StpB X x * (WallH p cubs * (RefH q n r * Old w))) := hs4.drew
                  go_region_held3 (fun w' => w'.cell? ⟨X, 3, none⟩ = some (.int .u32 x.id) ∧ w'.cell? ⟨X, 5, none⟩ = some (.slice x.la x.ln x.lc))
                    (first | exact ⟨d3, d5⟩ | exact ⟨h53, h55⟩ | exact ⟨h63, h65⟩)
                    (first
                      | (go_at_call 14; refine (small_calls (R := StpB X x * (WallH p cubs * RefH q n r)) x.la x.ln x.lc x.ls HXOk.out.old HXOk.out.wf HXOk.out.len (hsd.eq (by ac_rfl))).mono ?_; rintro e w5 ⟨v5, rfl, hs5⟩; have hl5 : Sat w w5 (LnR v5 (smallLn x.ls) * (Old w * (StpB X x * (WallH p cubs * RefH q n r)))) := hs5; have hq5 := (hl5.eq (by ac_rfl : _ = StpB X x * (LnR v5 (smallLn x.ls) * (Old w * (WallH p cubs * RefH q n r))))); have h53 := hq5.cellAt (i := 3) (v := .int .u32 x.id) rfl; have h55 := hq5.cellAt (i := 5) (v := .slice x.la x.ln x.lc) rfl)
                      | (go_at_call 11; refine (Assign_as HA1.out HXOk.out.wf (hl5.eq (by ac_rfl : _ = LnR v5 (smallLn x.ls) * (WallH p cubs * (StpB X x * (RefH q n r * Old w)))))).mono ?_; rintro e w6 ⟨rfl, hs6⟩; have hq6 := (Sat.eq hs6 (by ac_rfl : _ = StpB X x * (WallH p cs * (RefH q n r * Old w)))); have h63 := hq6.cellAt (i := 3) (v := .int .u32 x.id) rfl; have h65 := hq6.cellAt (i := 5) (v := .slice x.la x.ln x.lc) rfl))
                  clear d0 d1 d2 d3 d4 d5 hs4 hsd hs5 hl5 hq5 h53 h55 hs6
                  go_wp2_with fail
                  have hsd : Sat w w6.drew (StpB X x * (WallH p cs * (RefH q n r * Old w))) := hq6.drew
                  go_region_held3 (fun w' => w'.cell? ⟨X, 3, none⟩ = some (.int .u32 x.id) ∧ w'.cell? ⟨X, 5, none⟩ = some (.slice x.la x.ln x.lc))
                    (first | exact ⟨h63, h65⟩ | exact ⟨h73, h75⟩ | exact ⟨h83, h85⟩)
                    (first
                      | (go_at_call 14; refine (small_calls (R := StpB X x * (WallH p cs * RefH q n r)) x.la x.ln x.lc x.ls HXOk.out.old HXOk.out.wf HXOk.out.len (hsd.eq (by ac_rfl))).mono ?_; rintro e w7 ⟨v7, rfl, hs7⟩; have hl7 : Sat w w7 (LnR v7 (smallLn x.ls) * (Old w * (StpB X x * (WallH p cs * RefH q n r)))) := hs7; have hq7 := (hl7.eq (by ac_rfl : _ = StpB X x * (LnR v7 (smallLn x.ls) * (Old w * (WallH p cs * RefH q n r))))); have h73 := hq7.cellAt (i := 3) (v := .int .u32 x.id) rfl; have h75 := hq7.cellAt (i := 5) (v := .slice x.la x.ln x.lc) rfl)
                      | (go_at_call 22; refine (rassign_as HA2.out hn16 HB1.out (hl7.eq (by ac_rfl : _ = LnR v7 (smallLn x.ls) * (RefH q n r * (StpB X x * (WallH p cs * Old w)))))).mono ?_; rintro e w8 ⟨rfl, hs8⟩; have hq8 := (Sat.eq hs8 (by ac_rfl : _ = StpB X x * (WallH p cs * (RefH q n r' * Old w)))); have h83 := hq8.cellAt (i := 3) (v := .int .u32 x.id) rfl; have h85 := hq8.cellAt (i := 5) (v := .slice x.la x.ln x.lc) rfl))
                  have HEnd : Hid (TellsAt w X p q n x w8) := ⟨cs, r', HG, hq8⟩
                  clear hsd hs7 hl7 hq7 h73 h75 hs8 h83 h85 hq8 hq6 h63 h65
                  go_wp2_with fail
                  go_meet
                  exact ⟨rfl, HEnd.out⟩
            · have b0 : (x.kind == 0) = false := by simpa using fun h => k01 (.inl h)
              have b1 : (x.kind == 1) = false := by simpa using fun h => k01 (.inr h)
              by_cases k24 : x.kind = 2 ∨ x.kind = 3 ∨ x.kind = 4
              · obtain ⟨ae, cs, r', hA1, hA2, hG⟩ := hc.out.put x.cubby (x.item % 32) x.qty
                have HA1 := Lib.hid hA1
                have HA2 := Lib.hid hA2
                have HG : Hid (Both cs r' n) := hG
                have kb : (x.kind == 2) = true ∨ (x.kind == 2) = false ∧ ((x.kind == 3) = true ∨ (x.kind == 3) = false ∧ (x.kind == 4) = true) := by rcases k24 with k | k | k <;> simp [k]
                clear k01 k24 hA1 hA2 hG
                rcases kb with b2 | ⟨b2, b3 | ⟨b3, b4⟩⟩
                all_goals
                  as_aux_lemma =>
                    go_wp2_with fail
                    have hsd : Sat w w4.drew (StpB X x * (WallH p cubs * (RefH q n r * Old w))) := hs4.drew
                    go_region_held3 (fun w' => w'.cell? ⟨X, 1, none⟩ = some (.int .i64 x.cubby) ∧ w'.cell? ⟨X, 2, none⟩ = some (.int .i64 x.qty) ∧ w'.cell? ⟨X, 4, none⟩ = some (.int .u16 x.item))
                      (first | exact ⟨d1, d2, d4⟩ | exact ⟨h51, h52, h54⟩ | exact ⟨h61, h62, h64⟩)
                      (first
                        | (go_at_call 15; refine (Put_as HA1.out HXOk.out.qty (hsd.eq (by ac_rfl : _ = WallH p cubs * (StpB X x * (RefH q n r * Old w))))).mono ?_; rintro e w5 ⟨rfl, hs5⟩; have hq5 := (Sat.eq hs5 (star_left_comm _ _ _)); have h51 := hq5.cellAt (i := 1) (v := .int .i64 x.cubby) rfl; have h52 := hq5.cellAt (i := 2) (v := .int .i64 x.qty) rfl; have h54 := hq5.cellAt (i := 4) (v := .int .u16 x.item) rfl)
                        | (go_at_call 23; refine (rput_as HA2.out HB1.out HB2.out (hq5.eq (by ac_rfl : _ = RefH q n r * (StpB X x * (WallH p cs * Old w))))).mono ?_; rintro e w6 ⟨rfl, hs6⟩; have hq6 := (Sat.eq hs6 (by ac_rfl : _ = StpB X x * (WallH p cs * (RefH q n r' * Old w)))); have h61 := hq6.cellAt (i := 1) (v := .int .i64 x.cubby) rfl; have h62 := hq6.cellAt (i := 2) (v := .int .i64 x.qty) rfl; have h64 := hq6.cellAt (i := 4) (v := .int .u16 x.item) rfl))
                    have HEnd : Hid (TellsAt w X p q n x w6) := ⟨cs, r', HG, hq6⟩
                    clear hsd hs5 hq5 h51 h52 h54 hs6 h61 h62 h64 hq6 hs4 d0 d1 d2 d3 d4 d5
                    go_wp2_with fail
                    go_meet
                    exact ⟨rfl, HEnd.out⟩
              · have b2 : (x.kind == 2) = false := by simpa using fun h => k24 (.inl h)
                have b3 : (x.kind == 3) = false := by simpa using fun h => k24 (.inr (.inl h))
                have b4 : (x.kind == 4) = false := by simpa using fun h => k24 (.inr (.inr h))
                by_cases k5 : x.kind = 5
                · obtain ⟨ae, cs, r', hA1, hA2, hG⟩ := hc.out.less x.id (x.item % 32) x.qty
                  have HA1 := Lib.hid hA1
                  have HA2 := Lib.hid hA2
                  have HG : Hid (Both cs r' n) := hG
                  have b5 : (x.kind == 5) = true := by simpa using k5
                  as_aux_lemma =>
                    clear k01 k24 k5 hA1 hA2 hG
                    go_wp2_with fail
                    have hsd : Sat w w4.drew (StpB X x * (WallH p cubs * (RefH q n r * Old w))) := hs4.drew
                    go_region_held3 (fun w' => w'.cell? ⟨X, 3, none⟩ = some (.int .u32 x.id) ∧ w'.cell? ⟨X, 2, none⟩ = some (.int .i64 x.qty) ∧ w'.cell? ⟨X, 4, none⟩ = some (.int .u16 x.item))
                      (first | exact ⟨d3, d2, d4⟩ | exact ⟨h51, h52, h54⟩ | exact ⟨h61, h62, h64⟩)
                      (first
                        | (go_at_call 16; refine (Less_as HA1.out HXOk.out.qty (hsd.eq (by ac_rfl : _ = WallH p cubs * (StpB X x * (RefH q n r * Old w))))).mono ?_; rintro e w5 ⟨rfl, hs5⟩; have hq5 := (Sat.eq hs5 (star_left_comm _ _ _)); have h51 := hq5.cellAt (i := 3) (v := .int .u32 x.id) rfl; have h52 := hq5.cellAt (i := 2) (v := .int .i64 x.qty) rfl; have h54 := hq5.cellAt (i := 4) (v := .int .u16 x.item) rfl)
                        | (go_at_call 24; refine (rless_as HA2.out HB1.out HB2.out (hq5.eq (by ac_rfl : _ = RefH q n r * (StpB X x * (WallH p cs * Old w))))).mono ?_; rintro e w6 ⟨rfl, hs6⟩; have hq6 := (Sat.eq hs6 (by ac_rfl : _ = StpB X x * (WallH p cs * (RefH q n r' * Old w)))); have h61 := hq6.cellAt (i := 3) (v := .int .u32 x.id) rfl; have h62 := hq6.cellAt (i := 2) (v := .int .i64 x.qty) rfl; have h64 := hq6.cellAt (i := 4) (v := .int .u16 x.item) rfl))
                    have HEnd : Hid (TellsAt w X p q n x w6) := ⟨cs, r', HG, hq6⟩
                    clear hsd hs5 hq5 h51 h52 h54 hs6 h61 h62 h64 hq6 hs4 d0 d1 d2 d3 d4 d5
                    go_wp2_with fail
                    go_meet
                    exact ⟨rfl, HEnd.out⟩
                · have b5 : (x.kind == 5) = false := by simpa using k5
                  by_cases k6 : x.kind = 6
                  · obtain ⟨ak, ae, cs, r', hA1, hA2, hG⟩ := hc.out.release x.cubby
                    have HC := Lib.hid (Release_as hA1 (hs4.eq (star_left_comm _ _ _)))
                    have HA2 := Lib.hid hA2
                    have HG : Hid (Both cs r' n) := hG
                    have b6 : (x.kind == 6) = true := by simpa using k6
                    as_aux_lemma =>
                      clear k01 k24 k5 k6 hA1 hA2 hG
                      go_wp2_with fail
                      refine HC.out.mono ?_
                      rintro e w5 ⟨rfl, hs5⟩
                      have hq5 := (Sat.eq hs5 (star_left_comm _ _ _))
                      have HC2 := Lib.hid (rrelease_as HA2.out HB1.out (hq5.eq (by ac_rfl : _ = RefH q n r * (StpB X x * (WallH p cs * Old w)))))
                      have h51 := hq5.cellAt (i := 1) (v := .int .i64 x.cubby) rfl
                      clear hs4 d0 d1 d2 d3 d4 d5 hs5 hq5 HC
                      go_wp2_with fail
                      refine HC2.out.mono ?_
                      rintro e w6 ⟨rfl, hs6⟩
                      have HEnd : Hid (TellsAt w X p q n x w6) := ⟨cs, r', HG, Sat.eq hs6 (by ac_rfl : _ = StpB X x * (WallH p cs * (RefH q n r' * Old w)))⟩
                      clear hs6 h51
                      go_wp2_with fail
                      go_meet
                      exact ⟨rfl, HEnd.out⟩
                  · have b6 : (x.kind == 6) = false := by simpa using k6
                    by_cases k7 : x.kind = 7
                    · have HC := Lib.hid (Scan_calls (x.item % 32) (hs4.eq (star_left_comm _ _ _)))
                      have b7 : (x.kind == 7) = true := by simpa using k7
                      have HG := hc
                      as_aux_lemma =>
                        clear k01 k24 k5 k6 k7
                        go_wp2_with fail
                        refine HC.out.mono ?_
                        rintro e w5 ⟨rfl, hb5⟩
                        have hq5 := hs4.below hb5
                        have HC2 := Lib.hid (rscan_calls (x.item % 32) HB1.out (hq5.eq (by ac_rfl : _ = RefH q n r * (StpB X x * (WallH p cubs * Old w)))))
                        have h54 := hq5.cellAt (i := 4) (v := .int .u16 x.item) rfl
                        clear hs4 d0 d1 d2 d3 d4 d5 hq5 HC
                        go_wp2_with fail
                        refine HC2.out.mono ?_
                        rintro e w6 ⟨sc, sk, se, rfl, hsaid, hs6⟩
                        have HEnd : Hid (TellsAt w X p q n x w6) := ⟨cubs, r, HG, Sat.eq hs6 (by ac_rfl : _ = StpB X x * (WallH p cubs * (RefH q n r * Old w)))⟩
                        have hsc := HG.out.2.scan HG.out.1.1 hsaid
                        rw [hsc]
                        clear hs6 h54 hsaid hsc
                        go_wp2_with fail
                        go_meet
                        exact ⟨rfl, HEnd.out⟩
                    · have b7 : (x.kind == 7) = false := by simpa using k7
                      as_aux_lemma =>
                        clear k01 k24 k5 k6 k7
                        have HEnd : Hid (TellsAt w X p q n x w4) := ⟨cubs, r, hc, hs4⟩
                        clear hs4 d1 d2 d3 d4 d5
                        go_wp2_with fail
                        go_meet
                        exact ⟨rfl, HEnd.out⟩
          case rest =>
            obtain ⟨rfl, cs, r', HG, hs5⟩ := hcut
            have d3 := hs5.cellAt (i := 3) (v := .int .u32 x.id) rfl
            have HBd := Lib.hid (HG.out.2.bounded HG.out.1.1)
            have hfree := HG.out.2.free
            rw [HG.out.1.2.1] at hfree
            obtain ⟨ck, cb, hcm, hcase⟩ := HG.out.cubby x.id
            have HC := Lib.hid (cubby_as hcm (hs5.eq (star_left_comm _ _ _)))
            have HFree := Lib.hid hfree
            have HCase := Lib.hid hcase
            have HS5 := Lib.hid hs5
            clear hfree hcase hcm hs5 d0 d1 d2 d4 d5 hs4 hb31 HXOk hc HB1 HB2
            go_upto_region 32 with (fail)
            refine HC.out.mono ?_
            rintro e w6 ⟨rfl, hb6⟩
            have hs6 := HS5.out.below hb6
            clear HC HS5 d3
            go_upto_region 32 with (fail)
            go_cut [233] (fun v wc => v = .bool false ∧ Sat w wc (WallH p cs * (RefH q n r' * Old w)))
            case first =>
              clear HLen HN HS3 hi200 hil c1 c2 c1' c2' HO hl hLn hb6
              have hpl : r'.ps.length ≤ 100 := HBd.out.1
              have hwr : IntKind.i64.wrap ((n : Int) - r'.ps.length) = (n : Int) - r'.ps.length := by rw [IntKind.wrap_i64]; omega
              rcases HCase.out with ⟨rfl, hcr, hck⟩ | ⟨rfl, ⟨m, hcr, hm⟩, rfl⟩
              · as_aux_lemma =>
                have hck2 : decide (ck ≥ 0) = true := decide_eq_true hck
                obtain ⟨Ix, F, pa, pc, h0, hne, hX3, hq0, hq1, hcub, hfree, hend⟩ := tells_class hs6 HBd.out hcr HFree.out
                have HEnd := Lib.hid hend
                have HCub := Lib.hid hcub
                have HFr := Lib.hid hfree
                clear hs6 hcr hend hcub hfree HFree HCase
                refine wp_region_quiet (C := fun w' => ∃ k : Ix, w' = F k) (by kernel_rfl) (by kernel_rfl) h0 ?_
                simp only [List.toList_toArray]
                repeat (go_big_quiet_step (first | exact HCub.out _ | exact HFr.out _))
                refine wpQuiet_nil ?_
                intro w7 hw7
                obtain ⟨k7, rfl⟩ := hw7
                have HE := Lib.hid (HEnd.out k7)
                clear hX3 hq0 hq1 HEnd HCub HFr hwr
                go_wp2_with fail
                go_meet
                exact ⟨rfl, HE.out⟩
              · as_aux_lemma =>
                have hm2 : decide (m ≥ 0) = false := decide_eq_false (by omega)
                have hm3 : decide (0 ≤ m) = false := decide_eq_false (by omega)
                have hm4 : ¬ 0 ≤ m := by omega
                obtain ⟨Ix, F, pa, pc, h0, hne, hX3, hq0, hq1, hcub, hfree, hend⟩ := tells_class hs6 HBd.out hcr HFree.out
                have HEnd := Lib.hid hend
                have HCub := Lib.hid hcub
                have HFr := Lib.hid hfree
                clear hs6 hcr hend hcub hfree HFree HCase
                refine wp_region_quiet (C := fun w' => ∃ k : Ix, w' = F k) (by kernel_rfl) (by kernel_rfl) h0 ?_
                simp only [List.toList_toArray]
                repeat (go_big_quiet_step (first | exact HCub.out _ | exact HFr.out _))
                refine wpQuiet_nil ?_
                intro w7 hw7
                obtain ⟨k7, rfl⟩ := hw7
                have HE := Lib.hid (HEnd.out k7)
                clear hX3 hq0 hq1 HEnd HCub HFr hwr
                go_wp2_with fail
                go_meet
                exact ⟨rfl, HE.out⟩
            case rest =>
              obtain ⟨rfl, hs7⟩ := hcut
              have HS7 := Lib.hid hs7
              clear hs7 hs6 hb6 HCase HFree
              as_aux_lemma =>
              go_wp2_with fail
              go_loopw [27] (fun vk wr => ∃ k : Int, vk = .int .i64 k ∧ -1 ≤ k ∧ k ≤ 17 ∧ Sat w wr (WallH p cs * (RefH q n r' * Old w))) (fun vk _ => (17 - intOf vk).toNat)
              case atStart => exact ⟨-1, rfl, by omega, by omega, HS7.out⟩
              case round =>
                obtain ⟨k, rfl, hk1, hk2, hsk⟩ := hrel
                by_cases ck17 : k < 17
                · have HOr := Lib.hid (order_calls k hsk)
                  have hror := rorder_calls k HBd.out (hsk.eq (star_left_comm _ _ _))
                  rw [HG.out.2.order] at hror
                  have HROr := Lib.hid hror
                  have HNd := Lib.hid (needs_calls k hsk)
                  have hrnd := fun (R : HProp) (w1 : World) (h : Sat w w1 (RefH q n r' * R)) => rneeds_calls k HBd.out h
                  rw [HG.out.2.needs HG.out.1.1] at hrnd
                  have HRNd := Lib.hid hrnd
                  have hfu := fun (R : HProp) (w1 : World) (h : Sat w w1 (WallH p cs * R)) => Full_calls k h
                  have hrfu := fun (R : HProp) (w1 : World) (h : Sat w w1 (RefH q n r' * R)) => rfull_calls k HBd.out h
                  rw [HG.out.2.full HG.out.1.1] at hrfu
                  have HFu := Lib.hid hfu
                  have HRFu := Lib.hid hrfu
                  clear hror hrnd hfu hrfu hsk
                  have hms := (needsM_len HG.out.1.1 k).2.1
                  generalize orderM cs k = o at *
                  generalize needsM cs k = ms at *
                  generalize fullM cs k = fu at *
                  obtain ⟨o1, o2⟩ := o
                  go_wp2_with fail
                  refine HOr.out.mono ?_
                  rintro e w' ⟨rfl, rfl⟩
                  go_wp2_with fail
                  refine HROr.out.mono ?_
                  rintro e w' ⟨rfl, rfl⟩
                  go_wp2_with fail
                  refine HNd.out.mono ?_
                  rintro e w8 ⟨v8, rfl, hs8⟩
                  obtain ⟨a8, c8, rfl, _, _, h8⟩ := hs8.row_slice
                  have HAt8 : Hid (ms.length = 0 ∨ ∃ b, a8 = some ⟨b, 0, none⟩) := h8.imp id fun ⟨b, h, _⟩ => ⟨b, h⟩
                  have HQ8 := Lib.hid (hs8.eq (by ac_rfl : _ = RefH q n r' * (Row 50 3 (.slice a8 ms.length c8) ms.length (flat Ln.cells ms) * (WallH p cs * Old w))))
                  clear hs8 h8 HOr HROr HNd
                  go_wp2_with fail
                  refine (HRNd.out _ _ HQ8.out).mono ?_
                  rintro e w9 ⟨v9, rfl, hs9⟩
                  obtain ⟨a9, c9, rfl, _, _, h9⟩ := hs9.row_slice
                  have HAt9 : Hid (ms.length = 0 ∨ ∃ b, a9 = some ⟨b, 0, none⟩) := h9.imp id fun ⟨b, h, _⟩ => ⟨b, h⟩
                  have HQ9 := Lib.hid (hs9.eq (by ac_rfl : _ = Row 50 3 (.slice a8 ms.length c8) ms.length (flat Ln.cells ms) * (Row 50 3 (.slice a9 ms.length c9) ms.length (flat Ln.cells ms) * (WallH p cs * (RefH q n r' * Old w)))))
                  clear hs9 h9 HQ8 HRNd
                  go_wp2_with fail
                  refine (HFu.out _ _ HQ9.out.right.right).mono ?_
                  rintro e w' ⟨rfl, rfl⟩
                  go_wp2_with fail
                  refine (HRFu.out _ _ (HQ9.out.right.right.eq (star_left_comm _ _ _))).mono ?_
                  rintro e w' ⟨rfl, rfl⟩
                  clear HFu HRFu
                  go_wp2_with fail
                  go_loopw [34] (fun vj wr => ∃ j : Nat, vj = .int .i64 j ∧ j ≤ ms.length ∧ Sat w wr (Row 50 3 (.slice a8 ms.length c8) ms.length (flat Ln.cells ms) * (Row 50 3 (.slice a9 ms.length c9) ms.length (flat Ln.cells ms) * (WallH p cs * (RefH q n r' * Old w))))) (fun vj _ => (ms.length - intOf vj).toNat)
                  case atStart => exact ⟨0, rfl, by omega, HQ9.out⟩
                  case round =>
                    obtain ⟨j, rfl, hj, hsj⟩ := hrel
                    have HSj : Hid (∀ m, Sat w (wr.drewN m) (Row 50 3 (.slice a8 ms.length c8) ms.length (flat Ln.cells ms) * (Row 50 3 (.slice a9 ms.length c9) ms.length (flat Ln.cells ms) * (WallH p cs * (RefH q n r' * Old w))))) := fun m => hsj.drewN m
                    by_cases hlt : j < ms.length
                    · rcases HAt8.out with h0 | ⟨b8, rfl⟩
                      · omega
                      · rcases HAt9.out with h0 | ⟨b9, rfl⟩
                        · omega
                        · have j0 : (0 : Int) ≤ j := by omega
                          have j1 : (j : Int) < ms.length := by omega
                          obtain ⟨e0, e1, e2⟩ := LnAt.of_row' hsj j hlt
                          obtain ⟨g0, g1, g2⟩ := LnAt.of_row' hsj.right j hlt
                          clear hsj
                          go_wp2_with fail
                          go_quiet (fail)
                          go_wp2_with fail
                          go_roundw
                          case rel => exact ⟨j + 1, by go_num, by omega, HSj.out _⟩
                          case measure => simp [intOf]; omega
                    · obtain rfl : j = ms.length := by omega
                      have HSe := Lib.hid hsj.right.right
                      clear hsj HSj HQ9
                      go_wp2_with fail
                      go_roundw
                      case rel => exact ⟨k + 1, by go_num, by omega, by omega, HSe.out⟩
                      case measure => simp [intOf]; omega
                · obtain rfl : k = 17 := by omega
                  have HSk := Lib.hid hsk
                  clear hsk
                  go_wp2_with fail
                  go_roundw
                  case rel => exact ⟨i + 1, cs, r', by go_num, by omega, by omega, HG, HSk.out⟩
                  case measure => simp [intOf]; omega
      · have c1' : (i : Int) < len := by omega
        go_wp2_with fail
        go_ret
        exact ⟨rfl, (hsr.eq (by ac_rfl : _ = Old w * (WallH p cubs * RefH q n r))).ends⟩
    · go_wp2_with fail
      go_ret
      exact ⟨rfl, (hsr.eq (by ac_rfl : _ = Old w * (WallH p cubs * RefH q n r))).ends⟩
end Go.Proofs.Ytlejhnigbmgbpaa
