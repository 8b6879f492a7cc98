import Derived.Test.YtlejhnigbmgbpaaW35
namespace Go.Proofs.Ytlejhnigbmgbpaa
open Go.RowKit Go.Lamp

section
variable {W w : World} {q n : Nat} {r : Ref} {R : HProp}
theorem Nd.one {ds : List Nd} : ∀ u ∈ flat Nd.cells ds, u.oneCell' = true := by
  intro u hu
  simp only [flat, List.mem_flatMap] at hu
  obtain ⟨d, _, hu⟩ := hu
  simp [Nd.cells] at hu
  rcases hu with rfl | rfl | rfl | rfl <;> rfl
theorem src_take {b cap : Nat} {ds : List Nd} {i : Nat} (h : Sat W w (NdR (.slice (some ⟨b, 0, none⟩) ds.length cap) ds * R)) (hi : i ≤ ds.length) (c : Nat) : Src w (.slice (some ⟨b, 0, none⟩) i c) i (flat Nd.cells (ds.take i)) := by
  refine .inr ⟨_, _, rfl, fun j u hu => ?_⟩
  obtain ⟨a, cap', hv, _, _, h4⟩ := h.row_slice
  simp only [Value.slice.injEq] at hv
  obtain ⟨rfl, _, _⟩ := hv
  rw [← flat_take Nd.cells_length, List.getElem?_take] at hu
  split at hu
  · rename_i hj
    rcases h4 with h0 | ⟨b', hb, hc⟩
    · omega
    · simp only [Option.some.injEq, Addr.mk.injEq] at hb
      obtain ⟨rfl, _⟩ := hb
      rw [Addr.mk_add, Nat.zero_add, hc j (by omega), hu]
  · cases hu
theorem src_drop {b cap : Nat} {ds : List Nd} {k : Nat} (h : Sat W w (NdR (.slice (some ⟨b, 0, none⟩) ds.length cap) ds * R)) (hk : k ≤ ds.length) (c : Nat) : Src w (.slice (some ⟨b, k * 4, none⟩) (ds.length - k) c) (ds.length - k) (flat Nd.cells (ds.drop k)) := by
  refine .inr ⟨_, _, rfl, fun j u hu => ?_⟩
  obtain ⟨a, cap', hv, _, _, h4⟩ := h.row_slice
  simp only [Value.slice.injEq] at hv
  obtain ⟨rfl, _, _⟩ := hv
  rw [← flat_drop Nd.cells_length, List.getElem?_drop] at hu
  have hj := (List.getElem?_eq_some_iff.1 hu).1
  rw [flat_length Nd.cells_length] at hj
  rcases h4 with h0 | ⟨b', hb, hc⟩
  · omega
  · simp only [Option.some.injEq, Addr.mk.injEq] at hb
    obtain ⟨rfl, _⟩ := hb
    rw [Addr.mk_add, hc _ (by omega), hu]

theorem slice_head {b i lc len : Nat} (hi : i < len) (hc : len ≤ lc) (w : World) : (Instr.slice 59 (.slice (some ⟨b, 0, none⟩) len lc) none (some (.int .i64 i)) none).run Try.prog w = .ok (.slice (some ⟨b, 0, none⟩) i lc) w := by
  obtain ⟨i0, hinf, hz0, hz1, hz2⟩ := info_parts Try.infoNeed
  have h1 : (0 : Int) ≤ i := by omega
  have h2 : (i : Int) ≤ lc := by omega
  have he : Try.prog.elem 59 = 81 := by kernel_rfl
  have ht : Try.prog.underlying 59 = some (.slice (Try.prog.elem 59)) := by rw [he]; exact Try.underlying59
  rw [run_slice_h (ht := ht) (h0 := h1) (h2 := h2), he]
  simp [sizeOf, typeInfo, hinf, Result.andThen, sliced]
  intro _
  rw [Addr.mk_add]
theorem slice_tail {ds : List Nd} {b i lc : Nat} (hi : i < ds.length) (hc : ds.length ≤ lc) : ∃ da dc, (∀ w, (Instr.slice 59 (.slice (some ⟨b, 0, none⟩) ds.length lc) (some (.int .i64 ((i : Int) + 1))) none none).run Try.prog w = .ok (.slice da (ds.length - (i + 1)) dc) w) ∧
    Hid (∀ (R : HProp) (w : World), Sat W w (NdR (.slice (some ⟨b, 0, none⟩) ds.length lc) ds * R) → Src w (.slice da (ds.length - (i + 1)) dc) (ds.length - (i + 1)) (flat Nd.cells (ds.drop (i + 1)))) := by
  obtain ⟨i0, hinf, hz0, hz1, hz2⟩ := info_parts Try.infoNeed
  have h1 : (0 : Int) ≤ (i : Int) + 1 := by omega
  have h2 : (i : Int) + 1 ≤ ds.length := by omega
  have he : Try.prog.elem 59 = 81 := by kernel_rfl
  have hn : ((i : Int) + 1).toNat = i + 1 := by omega
  have ht : Try.prog.underlying 59 = some (.slice (Try.prog.elem 59)) := by rw [he]; exact Try.underlying59
  by_cases hl : lc = i + 1
  · refine ⟨some ⟨b, 0, none⟩, lc - (i + 1), fun w => ?_, fun R w h => ?_⟩
    · rw [run_slice_l (ht := ht) (h0 := h1) (h1 := h2), he]
      simp [sizeOf, typeInfo, hinf, Result.andThen, sliced, hn, hl]
    · have e : ds.drop (i + 1) = [] := List.drop_eq_nil_of_le (by omega)
      rw [e]
      exact .inr ⟨_, _, rfl, fun j u hu => by cases hu⟩
  · refine ⟨some ⟨b, (i + 1) * 4, none⟩, lc - (i + 1), fun w => ?_, fun R w h => src_drop h (by omega) _⟩
    rw [run_slice_l (ht := ht) (h0 := h1) (h1 := h2), he]
    simp [sizeOf, typeInfo, hinf, Result.andThen, sliced, hn, hl, hz1, Addr.mk_add]

theorem putR_none {c item qty : Int} (ho : (orderR r c).2 = true) (h : ∀ j (hj : j < r.ds.length), isNd c item r.ds[j] = false) : putR r c item qty = (11, r) := by
  unfold putR
  rw [ho, if_neg (by simp), findIdx_none h]
theorem putR_at {c item qty : Int} {i : Nat} (ho : (orderR r c).2 = true) (hi : i < r.ds.length) (h : ∀ j (hj : j < r.ds.length), j < i → isNd c item r.ds[j] = false) (hm : isNd c item r.ds[i] = true) :
    putR r c item qty = if qty < 1 ∨ r.ds[i].line.qty < qty then (10, r) else
        (0, { r with ds := r.ds.eraseIdx i ++ if r.ds[i].line.qty - qty > 0 then [⟨r.ds[i].cubby, { r.ds[i].line with qty := r.ds[i].line.qty - qty }⟩] else [] }) := by
  unfold putR
  rw [ho, if_neg (by simp), findIdx_at hi h hm]
  simp only
  rw [List.getElem?_eq_getElem hi]

set_option maxRecDepth 100000 in
set_option maxHeartbeats 2000000 in
theorem rput_calls (c item qty : Int) (hb : Bounded r) (hqty : ∀ d ∈ r.ds, d.line.qty ≤ 9223372036854775807) (hs : Sat W w (RefH q n r * R)) :
    Calls Try.prog 23 #[.pointer (some ⟨q, 0, none⟩), .int .i64 c, .int .u16 item, .int .i64 qty] w (RefPost W q n R (putR r c item qty).2 (.int .i64 (putR r c item qty).1)) := by
  have HC := Lib.hid (rorder_calls c hb hs)
  cases ho : (orderR r c).2 with
  | false =>
    have HM : Hid (putR r c item qty = (6, r)) := by unfold Hid putR; rw [ho]; rfl
    rw [HM.out]
    rw [ho] at HC
    clear ho hb hqty
    go_enter Try.func23, Try.ntmps23
    go_wp2_with fail
    refine HC.out.mono ?_
    rintro e w' ⟨rfl, rfl⟩
    go_wp2_with fail
    go_ret
    exact ⟨rfl, hs⟩
  | true =>
    have HNone := Lib.hid (fun h => putR_none (item := item) (qty := qty) ho h)
    have HAt := Lib.hid (fun i hi h hm => putR_at (item := item) (qty := qty) (i := i) ho hi h hm)
    rw [ho] at HC
    obtain ⟨pa, pc, la, lc, hs1, t0, t1, t2, _, hd⟩ := RefH.open hs
    have HD : Hid (r.ds.length = 0 ∨ ∃ b, la = some ⟨b, 0, none⟩) := hd.imp id fun ⟨b, h, _⟩ => ⟨b, h⟩
    have hlen : r.ds.length ≤ 1000 := hb.2
    obtain ⟨_, _, hlv, hlc, hlm, _⟩ := NdAt.of_row hs1.right.right
    simp only [Value.slice.injEq] at hlv
    obtain ⟨rfl, _, rfl⟩ := hlv
    have HS1 := Lib.hid hs1
    have HQ := Lib.hid hqty
    clear hs hb hd hs1 t0 t1 t2 ho hqty
    go_enter Try.func23, Try.ntmps23
    go_wp2_with fail
    refine HC.out.mono ?_
    rintro e w' ⟨rfl, rfl⟩
    go_wp2_with fail
    go_loopw [11] (fun vi wr => ∃ i : Nat, i ≤ r.ds.length ∧ vi = .int .i64 i ∧ Hid (∀ j (hj : j < r.ds.length), j < i → isNd c item r.ds[j] = false) ∧ Sat W wr (RefS q n (.slice pa r.ps.length pc) (.slice la r.ds.length lc) * (PlR (.slice pa r.ps.length pc) r.ps * (NdR (.slice la r.ds.length lc) r.ds * R)))) (fun vi _ => (r.ds.length - intOf vi).toNat)
    case atStart => exact ⟨0, by omega, rfl, fun j hj h => by omega, HS1.out⟩
    case round =>
      obtain ⟨i, hi, rfl, HNo, hsr⟩ := hrel
      have t2 := hsr.cellAt (i := 2) (v := .slice la r.ds.length lc) rfl
      have HSr := Lib.hid hsr
      by_cases hli : i < r.ds.length
      · rcases HD.out with h0 | ⟨b, rfl⟩
        · omega
        · obtain ⟨c0, c1, c2, c3⟩ := NdAt.of_row' hsr.right.right rfl i hli
          clear hsr
          cases hx : isNd c item r.ds[i]
          · have HX := Lib.hid hx
            have hnext : Hid (∀ j (hj : j < r.ds.length), j < i + 1 → isNd c item r.ds[j] = false) := fun j hj h => by
              rcases Nat.lt_or_ge j i with h2 | h2
              · exact HNo.out j hj h2
              · obtain rfl : j = i := by omega
                exact HX.out
            have hcase : (r.ds[i].cubby == c) = false ∨ (r.ds[i].cubby == c) = true ∧ (r.ds[i].line.item == item) = false := by
              unfold isNd at hx
              revert hx
              cases r.ds[i].cubby == c <;> simp
            clear hx
            rcases hcase with hc | ⟨hc, hm⟩
            · have hc2 : (r.ds[i].cubby != c) = true := by simpa using hc
              go_wp2_with fail
              clear hc hc2
              go_roundw
              case rel => exact ⟨i + 1, by omega, by go_num, hnext, HSr.out.alloc_keep _⟩
              case measure => simp [intOf]; omega
            · have hc2 : (r.ds[i].cubby != c) = false := by simpa using hc
              have hm2 : (r.ds[i].line.item != item) = true := by simpa using hm
              go_wp2_with fail
              clear hc hc2 hm hm2
              go_roundw
              case rel => exact ⟨i + 1, by omega, by go_num, hnext, HSr.out.alloc_keep _⟩
              case measure => simp [intOf]; omega
          · have HM := Lib.hid (HAt.out i hli HNo.out hx)
            have hcase : (r.ds[i].cubby == c) = true ∧ (r.ds[i].line.item == item) = true := by
              unfold isNd at hx
              simpa using hx
            obtain ⟨hc, hm⟩ := hcase
            have hc2 : (r.ds[i].cubby != c) = false := by simpa using hc
            have hm2 : (r.ds[i].line.item != item) = false := by simpa using hm
            have hqm := HQ.out _ (List.getElem_mem hli)
            clear hx HNone HAt
            by_cases q1 : qty < 1
            · rw [if_pos (.inl q1)] at HM
              go_wp2_with fail
              go_ret
              rw [HM.out]
              exact ⟨rfl, RefH.shut (HSr.out.alloc_keep _)⟩
            · by_cases q2 : r.ds[i].line.qty < qty
              · rw [if_pos (.inr q2)] at HM
                go_wp2_with fail
                go_ret
                rw [HM.out]
                exact ⟨rfl, RefH.shut (HSr.out.alloc_keep _)⟩
              · rw [if_neg (by omega)] at HM
                have hs4 := HSr.out.alloc (.cells #[.int .i64 r.ds[i].cubby, .int .u16 r.ds[i].line.item, .int .u16 r.ds[i].line.loc, .int .i64 r.ds[i].line.qty] 81)
                have HS4 := Lib.hid hs4
                clear hs4
                go_wp2_with fail
                have hs4 := HS4.out
                clear HS4 c0 c1 c2 c3 t2
                generalize wr.heap.size = X at *
                generalize wr.alloc (.cells #[.int .i64 r.ds[i].cubby, .int .u16 r.ds[i].line.item, .int .u16 r.ds[i].line.loc, .int .i64 r.ds[i].line.qty] 81) = w4 at *
                have hsd := hs4.drew
                have t2 := hs4.right.cellAt (i := 2) (v := .slice (some ⟨b, 0, none⟩) r.ds.length lc) rfl
                have hii : IntKind.i64.wrap ((i : Int) + 1) = (i : Int) + 1 := by rw [IntKind.wrap_i64]; omega
                have hr1 : ∀ w, (Instr.slice 59 (.slice (some ⟨b, 0, none⟩) r.ds.length lc) none (some (.int .i64 i)) none).run Try.prog w = .ok (.slice (some ⟨b, 0, none⟩) i lc) w := slice_head hli hlc
                obtain ⟨da, dc, hr2, HDr⟩ := slice_tail (W := W) (b := b) (ds := r.ds) (i := i) hli hlc
                go_region_held3 (fun w' => w'.cell? ⟨q, 2, none⟩ = some (.slice (some ⟨b, 0, none⟩) r.ds.length lc))
                  (first | exact t2 | exact h2a | exact h2b | go_keep)
                  (first
                    | (refine step_need rfl (.tmp 58) (.tmp 64) rfl rfl (W := W) (n := 0) (xs := []) ((hsd.alloc _).row_mk (n := 0) (size := 4) (Nat.zero_le 0) (Nat.zero_le _) rfl) rfl (m := i) (news := flat Nd.cells (r.ds.take i)) (src_take (hsd.right.right.right.alloc_keep _) (by omega) _) (by rw [flat_length Nd.cells_length, List.length_take]; omega) Nd.one (by omega) ?_; intro v5 w5 hs5; have h2a := hs5.right.right.cellAt (i := 2) (v := .slice (some ⟨b, 0, none⟩) r.ds.length lc) rfl)
                    | (refine step_need rfl (.tmp 65) (.tmp 72) rfl rfl (W := W) hs5 rfl (m := r.ds.length - (i + 1)) (news := flat Nd.cells (r.ds.drop (i + 1))) (HDr.out _ _ hs5.right.right.right.right) (by rw [flat_length Nd.cells_length, List.length_drop]) Nd.one (by omega) ?_; intro v6 w6 hs6; have h2b := hs6.right.right.cellAt (i := 2) (v := .slice (some ⟨b, 0, none⟩) r.ds.length lc) rfl))
                have hlen2 : (r.ds.eraseIdx i).length = r.ds.length - 1 := List.length_eraseIdx_of_lt hli
                have hs7 : Sat W w6 (NdR v6 (r.ds.eraseIdx i) * (blk X (.cells #[.int .i64 r.ds[i].cubby, .int .u16 r.ds[i].line.item, .int .u16 r.ds[i].line.loc, .int .i64 r.ds[i].line.qty] 81 (0, 0)) * (RefS q n (.slice pa r.ps.length pc) (.slice (some ⟨b, 0, none⟩) r.ds.length lc) * (PlR (.slice pa r.ps.length pc) r.ps * (NdR (.slice (some ⟨b, 0, none⟩) r.ds.length lc) r.ds * R))))) := by
                  have := hs6
                  rw [NdR, hlen2, List.eraseIdx_eq_take_drop_succ, flat_append]
                  rw [List.nil_append, show 0 + i + (r.ds.length - (i + 1)) = r.ds.length - 1 by omega] at this
                  exact this
                obtain ⟨va, vc, rfl, _, _, _⟩ := hs7.row_slice
                have hs8 := hs7.eq (star_left_comm _ _ _)
                have d0 := hs8.cellAt (i := 0) (v := .int .i64 r.ds[i].cubby) rfl
                have d1 := hs8.cellAt (i := 1) (v := .int .u16 r.ds[i].line.item) rfl
                have d2 := hs8.cellAt (i := 2) (v := .int .u16 r.ds[i].line.loc) rfl
                have d3 := hs8.cellAt (i := 3) (v := .int .i64 r.ds[i].line.qty) rfl
                have f3 : w6.frozen? ⟨X, 3, none⟩ = false := hs8.free
                have hs9 := hs8.setCell (i := 3) (.int .i64 (r.ds[i].line.qty - qty))
                have hs10 := hs9.right.eq (by ac_rfl : _ = RefS q n (.slice pa r.ps.length pc) (.slice (some ⟨b, 0, none⟩) r.ds.length lc) * (NdR (.slice (some ⟨b, 0, none⟩) r.ds.length lc) r.ds * (PlR (.slice pa r.ps.length pc) r.ps * (NdR (.slice va (r.ds.eraseIdx i).length vc) (r.ds.eraseIdx i) * R))))
                have HS10 := Lib.hid hs10
                clear hs10 hs9 hs8 hs7 hs6 hs5 h2a h2b hsd hs4 t2 hr1 hr2 hii HDr HSr
                by_cases q3 : qty < r.ds[i].line.qty
                · have q4 : 0 < r.ds[i].line.qty - qty := by omega
                  rw [if_pos (show r.ds[i].line.qty - qty > 0 from q4)] at HM
                  have hs11 := HS10.out.eq (by ac_rfl : _ = NdR (.slice va (r.ds.eraseIdx i).length vc) (r.ds.eraseIdx i) * (RefS q n (.slice pa r.ps.length pc) (.slice (some ⟨b, 0, none⟩) r.ds.length lc) * (NdR (.slice (some ⟨b, 0, none⟩) r.ds.length lc) r.ds * (PlR (.slice pa r.ps.length pc) r.ps * R))))
                  have HS11 := Lib.hid hs11
                  have HLen2 := Lib.hid hlen2
                  clear hs11 hlen2
                  go_wp2_with (at_builtin; go_must (refine append_need rfl (.tmp 85) (.tmp 87) rfl rfl (W := W) (HS11.out.alloc_keep _) rfl (m := 1) (news := Nd.cells ⟨r.ds[i].cubby, { r.ds[i].line with qty := r.ds[i].line.qty - qty }⟩) (.inr ⟨_, _, rfl, fun j u hu => ?_⟩) rfl ?_ ?_ ?_))
                  case refine_1 =>
                    have h3 := cells_new (w6.setCell ⟨X, 3, none⟩ (.int .i64 (r.ds[i].line.qty - qty))) #[.int .i64 r.ds[i].cubby, .int .u16 r.ds[i].line.item, .int .u16 r.ds[i].line.loc, .int .i64 (r.ds[i].line.qty - qty)] 81 j _ hu
                    first | exact h3 | exact hu
                  case refine_2 =>
                    intro u hu
                    simp [Nd.cells] at hu
                    rcases hu with rfl | rfl | rfl | rfl <;> rfl
                  case refine_3 => have := HLen2.out; omega
                  intro v8 w8 hs12 _
                  have hs13 : Sat W w8 (NdR v8 (r.ds.eraseIdx i ++ [⟨r.ds[i].cubby, { r.ds[i].line with qty := r.ds[i].line.qty - qty }⟩]) * (RefS q n (.slice pa r.ps.length pc) (.slice (some ⟨b, 0, none⟩) r.ds.length lc) * (NdR (.slice (some ⟨b, 0, none⟩) r.ds.length lc) r.ds * (PlR (.slice pa r.ps.length pc) r.ps * R)))) := by
                    rw [NdR, flat_append, List.length_append]
                    exact hs12.eq (by simp [flat])
                  clear hs12
                  generalize r.ds.eraseIdx i ++ [(⟨r.ds[i].cubby, { r.ds[i].line with qty := r.ds[i].line.qty - qty }⟩ : Nd)] = ds' at *
                  obtain ⟨va8, vc8, rfl, _, _, _⟩ := hs13.row_slice
                  have hs14 := hs13.eq (by ac_rfl : _ = RefS q n (.slice pa r.ps.length pc) (.slice (some ⟨b, 0, none⟩) r.ds.length lc) * (NdR (.slice (some ⟨b, 0, none⟩) r.ds.length lc) r.ds * (PlR (.slice pa r.ps.length pc) r.ps * (NdR (.slice va8 ds'.length vc8) ds' * R))))
                  have hf8 : w8.frozen? ⟨q, 2, none⟩ = false := hs14.free
                  have ht8 := hs14.cellAt (i := 2) (v := .slice (some ⟨b, 0, none⟩) r.ds.length lc) rfl
                  have HS14 := Lib.hid hs14
                  clear hs13 hs14 HS11 HS10 d0 d1 d2 d3 f3
                  go_wp2_with fail
                  go_ret
                  rw [HM.out]
                  refine ⟨rfl, RefH.shut (pv := .slice pa r.ps.length pc) (lv := .slice va8 ds'.length vc8) ?_⟩
                  have h6 := HS14.out.setCell (i := 2) (.slice va8 ds'.length vc8)
                  exact (h6.eq (star_left_comm _ _ _)).right
                · have q4 : ¬ 0 < r.ds[i].line.qty - qty := by omega
                  rw [if_neg (show ¬ r.ds[i].line.qty - qty > 0 from q4), List.append_nil] at HM
                  have f2 : (w6.setCell ⟨X, 3, none⟩ (.int .i64 (r.ds[i].line.qty - qty))).frozen? ⟨q, 2, none⟩ = false := HS10.out.free
                  have HLen2 := Lib.hid hlen2
                  clear hlen2
                  go_wp2_with fail
                  go_ret
                  rw [HM.out]
                  refine ⟨rfl, RefH.shut (pv := .slice pa r.ps.length pc) (lv := .slice va (r.ds.eraseIdx i).length vc) ?_⟩
                  have h6 := HS10.out.setCell (i := 2) (.slice va (r.ds.eraseIdx i).length vc)
                  exact (h6.eq (star_left_comm _ _ _)).right
      · obtain rfl : i = r.ds.length := by omega
        have HM := Lib.hid (HNone.out fun j hj => HNo.out j hj hj)
        clear hsr HAt HNone
        go_wp2_with fail
        go_ret
        rw [HM.out]
        exact ⟨rfl, RefH.shut HSr.out⟩
end
end Go.Proofs.Ytlejhnigbmgbpaa
