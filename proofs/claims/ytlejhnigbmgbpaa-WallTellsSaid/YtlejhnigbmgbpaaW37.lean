import Derived.Test.YtlejhnigbmgbpaaW36
import Derived.Deep.RegionLaw
namespace Go.Proofs.Ytlejhnigbmgbpaa
open Go.RowKit Go.Lamp
set_option linter.unusedVariables false

section
variable {W w : World} {q n : Nat} {r : Ref} {R : HProp}
theorem Pl.one {ds : List Pl} : ∀ u ∈ flat Pl.cells ds, u.oneCell' = true := by
  intro u hu
  simp only [flat, List.mem_flatMap] at hu
  obtain ⟨d, _, hu⟩ := hu
  simp [Pl.cells] at hu
  rcases hu with rfl | rfl <;> rfl
theorem src4 {w : World} {ad : Addr} {c0 c1 c2 c3 : Value} (h0 : w.cell? (ad.add 0) = some c0) (h1 : w.cell? (ad.add 1) = some c1) (h2 : w.cell? (ad.add 2) = some c2) (h3 : w.cell? (ad.add 3) = some c3) :
    ∀ j u, [c0, c1, c2, c3][j]? = some u → w.cell? (ad.add j) = some u := by
  intro j u hu
  match j, hu with
  | 0, hu => simpa [← h0] using hu
  | 1, hu => simpa [← h1] using hu
  | 2, hu => simpa [← h2] using hu
  | 3, hu => simpa [← h3] using hu
  | j + 4, hu => simp at hu
theorem cell_alloc {w : World} {p : Addr} {v : Value} (h : w.cell? p = some v) (o : Obj) : (w.alloc o).cell? p = some v := by
  rw [World.cell?_alloc_some w p o (by rw [h]; rfl)]; exact h
/-- append onto an empty slice, as a step of a region: nothing is appended. -/
theorem step_need_zero {w : World} {ops : Array Oper} {o : Oper} {a : Act} {K : Act → World → Prop} {Q : Exit → Act → World → Prop} {E : Prop} (hgd : o.guard = none) (s x : Operand)
    (ho : o.op = .call { callee := .builtin .append, args := #[s, x], argTypes := #[59, 59] })
    {b : Addr} (hs : a.eval s = .slice (some b) 0 0) {la : Option Addr} {lc : Nat} (hx : a.eval x = .slice la 0 lc)
    (h : K (a.put o.dst (.slice (some b) 0 0)) w) : if Region.wanted o (yielded ops a.tmps) = true then Oper.wp Try.prog o a w K Q else E := by
  have hw : Region.wanted o (yielded ops a.tmps) = true := by simp [Region.wanted, hgd]
  rw [if_pos hw]
  obtain ⟨i0, hi, hz0, hz1, hz2⟩ := info_parts Try.infoNeed
  have hr : (Builtin.append_ #[59, 59] o.type #[.slice (some b) 0 0, .slice la 0 lc]).run Try.prog w = .ok (.slice (some b) 0 0) w := by
    cases la <;> simp [Builtin.append_, run_underlying Try.underlying59, sizeOf, typeInfo, hi, Builtin.lenOf, Builtin.firstCells, loadCells, loadCellsFrom, storeCells]
  unfold Oper.wp
  simp [execOp, ho, resolve, invoke, builtin, hs, hx, hr, Result.andThen]
  exact h
/-- append onto an empty slice, as a step of a region: something is appended. -/
theorem step_need_new {W w : World} {R : HProp} {ops : Array Oper} {o : Oper} {a : Act} {K : Act → World → Prop} {Q : Exit → Act → World → Prop} {E : Prop} (hgd : o.guard = none) (s x : Operand)
    (ho : o.op = .call { callee := .builtin .append, args := #[s, x], argTypes := #[59, 59] })
    {b : Addr} (hs : a.eval s = .slice (some b) 0 0) (hR : Sat W w R) {ad : Addr} {m c : Nat} {news : List Value} (hx : a.eval x = .slice (some ad) m c)
    (hsrc : ∀ j u, news[j]? = some u → w.cell? (ad.add j) = some u) (hl : news.length = m * 4) (h0 : 0 < m) (hn : m ≤ 1048576)
    (h : ∀ v' w', Sat W w' (Row 81 4 v' m news * R) → Below w.heap.size w w' → K (a.put o.dst v') w') : if Region.wanted o (yielded ops a.tmps) = true then Oper.wp Try.prog o a w K Q else E := by
  have hw : Region.wanted o (yielded ops a.tmps) = true := by simp [Region.wanted, hgd]
  rw [if_pos hw]
  obtain ⟨i0, hi, hz0, hz1, hz2⟩ := info_parts Try.infoNeed
  have hr := run_append_grow (P := Try.prog) w 59 o.type 81 i0 _ Try.underlying59 hi hz0 b 0 0 [] (by simp) (by intro j v hv; simp at hv) ad m c news (by rw [hz1]; exact hl) hsrc (by omega) (by omega) (growslice_fits (by omega) (by rw [hz2]; omega))
  have hge := grownCap_ge w (0 + m) 0 81
  have hcm : grownCap w (0 + m) 0 81 ≤ maxLen := grownCap_le_maxLen w (0 + m) 0 81 (by unfold maxLen; omega)
  have ha := hR.drew.alloc (.cells (([] : List Value).toArray ++ news.toArray ++ Builtin.zeroCells (Value.agg #[.int .i64 0, .int .u16 0, .int .u16 0, .int .i64 0]).cells (grownCap w (0 + m) 0 81 - (0 + m))) 81)
  have hrow := ha.row_mk (n := m) (size := 4) (by omega) hcm (by
    have e : (Value.agg #[.int .i64 0, .int .u16 0, .int .u16 0, .int .i64 0]).cells.size = 4 := rfl
    simp only [Array.size_append, List.size_toArray, size_zeroCells, e, hl, List.length_nil]
    omega)
  have e2 : (([] : List Value).toArray ++ news.toArray ++ Builtin.zeroCells (Value.agg #[.int .i64 0, .int .u16 0, .int .u16 0, .int .i64 0]).cells (grownCap w (0 + m) 0 81 - (0 + m))).toList.take (m * 4) = news := by
    simp only [Array.toList_append, List.nil_append]
    rw [← hl]
    exact List.take_left
  rw [e2] at hrow
  have hbel : Below w.heap.size w (w.drew.alloc (.cells (([] : List Value).toArray ++ news.toArray ++ Builtin.zeroCells (Value.agg #[.int .i64 0, .int .u16 0, .int .u16 0, .int .i64 0]).cells (grownCap w (0 + m) 0 81 - (0 + m))) 81)) :=
    ⟨rfl, rfl, rfl, by simp, fun k hk => heap_drew_alloc_old hk⟩
  have h2 := h _ _ hrow hbel
  unfold Oper.wp
  simp only [Nat.zero_add] at hr h2
  simp [execOp, ho, resolve, invoke, builtin, hs, hx, hr, Result.andThen]
  simp only [Array.empty_append] at h2
  exact h2
def ndsOf (c : Nat) (ls : List Ln) : List Nd := ls.map (fun l => ⟨c, l⟩)
theorem ndsOf_snoc (c : Nat) (ls : List Ln) (i : Nat) (hi : i < ls.length) : ndsOf c (ls.take (i + 1)) = ndsOf c (ls.take i) ++ [⟨c, ls[i]⟩] := by
  unfold ndsOf; rw [List.take_succ_eq_append_getElem hi, List.map_append]; rfl
/-- So far the lines may be. -/
def goodTo (ls : List Ln) (i : Nat) : Prop := ∀ j (hj : j < ls.length), j < i → 1 ≤ ls[j].qty ∧ ∀ k (hk : k < j), ls[k].item ≠ ls[j].item
theorem goodTo.all {ls : List Ln} (h : goodTo ls ls.length) : okLines ls = true := by
  unfold okLines
  rw [Bool.and_eq_true, List.all_eq_true, decide_eq_true_iff]
  constructor
  · intro l hl
    obtain ⟨j, hj, rfl⟩ := List.getElem_of_mem hl
    simpa using (h j hj hj).1
  · unfold List.Nodup
    rw [List.pairwise_map, List.pairwise_iff_getElem]
    intro i j hi hj hij
    exact (h j hj hj).2 i hij
theorem bad_same {ls : List Ln} {i k : Nat} (hi : i < ls.length) (hk : k < i) (h : ls[k].item = ls[i].item) : okLines ls = false := by
  rw [Bool.eq_false_iff]
  intro ho
  unfold okLines at ho
  rw [Bool.and_eq_true, List.all_eq_true, decide_eq_true_iff] at ho
  have h2 := ho.2
  unfold List.Nodup at h2
  rw [List.pairwise_map, List.pairwise_iff_getElem] at h2
  exact h2 k i (by omega) hi hk h
theorem goodTo.step {ls : List Ln} {i : Nat} (h : goodTo ls i) (hi : i < ls.length) (h1 : ¬ ls[i].qty < 1) (h2 : ∀ k (hk : k < i), ls[k].item ≠ ls[i].item) : goodTo ls (i + 1) := by
  intro j hj hji
  rcases Nat.lt_or_ge j i with h3 | h3
  · exact h j hj h3
  · obtain rfl : j = i := by omega
    exact ⟨by omega, h2⟩
theorem assignR_twice {order : Int} {ls : List Ln} (h : 0 ≤ cubbyR r order) : assignR n r order ls = ((0, 8), r) := by unfold assignR; rw [if_pos h]
theorem assignR_bad {order : Int} {ls : List Ln} (h : ¬ 0 ≤ cubbyR r order) (ho : okLines ls = false) : assignR n r order ls = ((0, 1), r) := by unfold assignR; rw [if_neg h, if_pos ho]
theorem assignR_full {order : Int} {ls : List Ln} (h : ¬ 0 ≤ cubbyR r order) (ho : okLines ls = true) (hf : ∀ j : Nat, j < n → (orderR r j).2 = true) : assignR n r order ls = ((0, 5), r) := by
  have e : (List.range n).find? (fun c : Nat => !(orderR r c).2) = none := by
    rw [List.find?_eq_none]
    intro c hc
    rw [List.mem_range] at hc
    simp [hf c hc]
  unfold assignR; rw [if_neg h, if_neg (by simp [ho]), e]
theorem assignR_at {order : Int} {ls : List Ln} {c : Nat} (h : ¬ 0 ≤ cubbyR r order) (ho : okLines ls = true) (hc : c < n) (hf : ∀ j : Nat, j < c → (orderR r j).2 = true) (hn : (orderR r c).2 = false) :
    assignR n r order ls = (((c : Int), 0), ⟨r.ps ++ [⟨c, order⟩], r.ds ++ ls.map (⟨c, ·⟩)⟩) := by
  have e : (List.range n).find? (fun c : Nat => !(orderR r c).2) = some c := by
    rw [List.find?_range_eq_some]
    exact ⟨by simp [hn], by simpa using hc, fun j hj => by simp [hf j hj]⟩
  unfold assignR; rw [if_neg h, if_neg (by simp [ho]), e]

set_option maxRecDepth 100000 in
set_option maxHeartbeats 4000000 in
theorem rassign_calls (order : Int) (v : Value) (ls : List Ln) (hl12 : ls.length ≤ 12) (hn16 : n ≤ 16) (hb : Bounded r) (hs : Sat W w (Row 50 3 v ls.length (flat Ln.cells ls) * (RefH q n r * R))) :
    Calls Try.prog 22 #[.pointer (some ⟨q, 0, none⟩), .int .u32 order, v] w (RefPost W q n (Row 50 3 v ls.length (flat Ln.cells ls) * R) (assignR n r order ls).2 (.tuple #[.int .i64 (assignR n r order ls).1.1, .int .i64 (assignR n r order ls).1.2])) := by
  obtain ⟨av, cv, rfl, hcv, hmv, hatv⟩ := hs.row_slice
  have HAv : Hid (ls.length = 0 ∨ ∃ b, av = some ⟨b, 0, none⟩) := hatv.imp id fun ⟨b, h, _⟩ => ⟨b, h⟩
  have hs0 := hs.eq (star_left_comm _ _ _)
  have HC := Lib.hid (rcubby_calls order hb hs0)
  have HO := Lib.hid (fun (c : Int) (w1 : World) (h : Sat W w1 (RefH q n r * (Row 50 3 (.slice av ls.length cv) ls.length (flat Ln.cells ls) * R))) => rorder_calls c hb h)
  have HTw := Lib.hid (fun h => assignR_twice (n := n) (r := r) (order := order) (ls := ls) h)
  have HBad := Lib.hid (fun h ho => assignR_bad (n := n) (r := r) (order := order) (ls := ls) h ho)
  have HFull := Lib.hid (fun h ho hf => assignR_full (n := n) (r := r) (order := order) (ls := ls) h ho hf)
  have HGive := Lib.hid (fun h ho (c : Nat) hc hf hn => assignR_at (n := n) (r := r) (order := order) (ls := ls) (c := c) h ho hc hf hn)
  have hlp : r.ps.length ≤ 100 := hb.1
  have hld : r.ds.length ≤ 1000 := hb.2
  have HS0 := Lib.hid hs0
  generalize cubbyR r order = cu at *
  clear hs hatv hb hs0
  by_cases hcu : 0 ≤ cu
  · have HM := Lib.hid (HTw.out hcu)
    clear HTw HBad HFull HGive HO
    go_enter Try.func22, Try.ntmps22
    go_wp2_with fail
    refine HC.out.mono ?_
    rintro e w' ⟨rfl, rfl⟩
    go_wp2_with fail
    go_ret2
    rw [HM.out]
    exact ⟨rfl, HS0.out⟩
  · have HBd := Lib.hid (HBad.out hcu)
    have HFl := Lib.hid (HFull.out hcu)
    have HGv := Lib.hid (HGive.out hcu)
    clear HTw HBad HFull HGive
    go_enter Try.func22, Try.ntmps22
    go_wp2_with fail
    refine HC.out.mono ?_
    rintro e w' ⟨rfl, rfl⟩
    clear HC
    go_wp2_with fail
    go_loopw [8] (fun vi wr => ∃ i : Nat, i ≤ ls.length ∧ vi = .int .i64 i ∧ Hid (goodTo ls i) ∧ Sat W wr (RefH q n r * (Row 50 3 (.slice av ls.length cv) ls.length (flat Ln.cells ls) * R))) (fun vi _ => (ls.length - intOf vi).toNat)
    case atStart => exact ⟨0, by omega, rfl, fun j hj h => by omega, HS0.out⟩
    case round =>
      obtain ⟨i, hi, rfl, HG, hsr⟩ := hrel
      have HSr := Lib.hid hsr
      by_cases hli : i < ls.length
      · have k0 : (0 : Int) ≤ i := by omega
        have k1 : (i : Int) < ls.length := by omega
        clear hsr
        go_wp2_with fail
        go_loopw [9] (fun vk wr => ∃ k : Nat, k ≤ i ∧ vk = .int .i64 k ∧ Hid (∀ j (hj : j < k) (hk : k ≤ i), ls[j].item ≠ ls[i].item) ∧ Sat W wr (RefH q n r * (Row 50 3 (.slice av ls.length cv) ls.length (flat Ln.cells ls) * R))) (fun vk _ => (i - intOf vk).toNat)
        case atStart => exact ⟨0, by omega, rfl, fun j hj => by omega, HSr.out⟩
        case round =>
          obtain ⟨k, hk, rfl, HN, hsk⟩ := hrel
          rcases HAv.out with h0 | ⟨b, rfl⟩
          · omega
          · have hat := LnAt.of_row' hsk.right
            obtain ⟨c0, c1, c2⟩ := hat i hli
            have HSk : Hid (∀ m, Sat W (wr.drewN m) (RefH q n r * (Row 50 3 (.slice (some ⟨b, 0, none⟩) ls.length cv) ls.length (flat Ln.cells ls) * R))) := fun m => hsk.drewN m
            by_cases hlk : k < i
            · obtain ⟨g0, g1, g2⟩ := hat k (by omega)
              have j0 : (0 : Int) ≤ k := by omega
              have j1 : (k : Int) < ls.length := by omega
              clear hat hsk
              cases hm : ls[k].item == ls[i].item
              · have HM := Lib.hid hm
                go_wp2_with fail
                go_quiet (fail)
                go_wp2_with fail
                clear hm
                go_roundw
                case rel =>
                  refine ⟨k + 1, by omega, by go_num, fun j hj hk2 => ?_, HSk.out _⟩
                  rcases Nat.lt_or_ge j k with h2 | h2
                  · exact HN.out j h2 (by omega)
                  · obtain rfl : j = k := by omega
                    have := HM.out
                    simpa using this
                case measure => simp [intOf]; omega
              · have HM : Hid (okLines ls = false) := bad_same hli hlk (by simpa using hm)
                go_wp2_with fail
                go_quiet (fail)
                go_wp2_with fail
                go_ret2
                rw [HBd.out HM.out]
                exact ⟨rfl, HSk.out _⟩
            · obtain rfl : k = i := by omega
              clear hat hsk
              by_cases hq : ls[k].qty < 1
              · have HM : Hid (okLines ls = false) := bad_qty hli hq
                go_wp2_with fail
                go_ret2
                rw [HBd.out HM.out]
                exact ⟨rfl, HSk.out 0⟩
              · have HQ := Lib.hid hq
                go_wp2_with fail
                clear hq
                go_roundw
                case rel => exact ⟨k + 1, by omega, by go_num, HG.out.step hli HQ.out (fun j hj => HN.out j hj (by omega)), HSk.out 0⟩
                case measure => simp [intOf]; omega
      · obtain rfl : i = ls.length := by omega
        have HOk : Hid (okLines ls = true) := HG.out.all
        have HFf := Lib.hid (HFl.out HOk.out)
        have HGg := Lib.hid (HGv.out HOk.out)
        clear hsr HFl HGv HBd HG
        go_wp2_with fail
        go_loopw [10] (fun vc wr => ∃ c : Nat, c ≤ n ∧ vc = .int .i64 c ∧ Hid (∀ j : Nat, j < c → (orderR r j).2 = true) ∧ Sat W wr (RefH q n r * (Row 50 3 (.slice av ls.length cv) ls.length (flat Ln.cells ls) * R))) (fun vc _ => (n - intOf vc).toNat)
        case atStart => exact ⟨0, by omega, rfl, fun j hj => by omega, HSr.out⟩
        case round =>
          obtain ⟨c, hcn, rfl, HF, hsc⟩ := hrel
          obtain ⟨pa, pc, la, lc, hs1, t0, t1, t2, _, _⟩ := RefH.open hsc
          have HSc := Lib.hid hsc
          by_cases hlc : c < n
          · have HOc := Lib.hid (HO.out c wr hsc)
            cases hoc : (orderR r c).2 with
            | true =>
              rw [hoc] at HOc
              have HOC := Lib.hid hoc
              clear hsc hs1 hoc
              go_wp2_with fail
              refine HOc.out.mono ?_
              rintro e w' ⟨rfl, rfl⟩
              go_wp2_with fail
              go_roundw
              case rel =>
                refine ⟨c + 1, by omega, by go_num, fun j hj => ?_, HSc.out⟩
                rcases Nat.lt_or_ge j c with h2 | h2
                · exact HF.out j h2
                · obtain rfl : j = c := by omega
                  exact HOC.out
              case measure => simp [intOf]; omega
            | false =>
              rw [hoc] at HOc
              have HM := Lib.hid (HGg.out c hlc HF.out hoc)
              have hsrc := row_src hs1.right
              have HFp : Hid ((flat Pl.cells r.ps).length = r.ps.length * 2) := flat_length Pl.cells_length r.ps
              have HS1 := Lib.hid hs1
              have hltq : q < wr.heap.size := hs1.lt
              clear hsc hs1 hoc HGg HFf HF
              go_wp2_with fail
              refine HOc.out.mono ?_
              rintro e w' ⟨rfl, rfl⟩
              clear HOc
              go_wp2_with (at_builtin; go_must (refine append_place rfl (.tmp 62) (.tmp 66) rfl rfl (W := W) ((HS1.out.alloc _).row_mk (n := 0) (size := 2) (Nat.zero_le 0) (Nat.zero_le _) rfl) rfl (hsrc.mono ((Below.refl _ _).alloc (Nat.le_refl _) _)) HFp.out Pl.one (by omega) ?_))
              intro v1 w1 hs2 _
              go_wp2_with (at_builtin; go_must (refine append_place rfl (.tmp 67) (.tmp 71) rfl rfl (W := W) (hs2.alloc_keep _) rfl (sv := .slice (some ⟨w1.heap.size, 0, none⟩) 1 1) (m := 1) (news := Pl.cells ⟨c, order⟩) (.inr ⟨_, _, rfl, fun j u hu => ?_⟩) rfl ?_ ?_ ?_))
              case refine_1 => exact cells_new w1 #[.int .i64 c, .int .u32 order] 79 j _ hu
              case refine_2 =>
                intro u hu
                simp [Pl.cells] at hu
                rcases hu with rfl | rfl <;> rfl
              case refine_3 => omega
              intro v2 w2 hs3 _
              have hs4 : Sat W w2 (PlR v2 (r.ps ++ [⟨c, order⟩]) * (RefS q n (.slice pa r.ps.length pc) (.slice la r.ds.length lc) * (PlR (.slice pa r.ps.length pc) r.ps * (NdR (.slice la r.ds.length lc) r.ds * (Row 50 3 (.slice av ls.length cv) ls.length (flat Ln.cells ls) * R))))) := by
                rw [PlR, flat_append, List.length_append]
                exact hs3.eq (by simp [flat])
              clear hs3 hs2 hsrc HS1 t0 t1 t2
              generalize r.ps ++ [(⟨c, order⟩ : Pl)] = ps' at *
              obtain ⟨va, vc, rfl, _, _, _⟩ := hs4.row_slice
              have hs5 := hs4.eq (by ac_rfl : _ = RefS q n (.slice pa r.ps.length pc) (.slice la r.ds.length lc) * (PlR (.slice pa r.ps.length pc) r.ps * (PlR (.slice va ps'.length vc) ps' * (NdR (.slice la r.ds.length lc) r.ds * (Row 50 3 (.slice av ls.length cv) ls.length (flat Ln.cells ls) * R)))))
              have hf2 : w2.frozen? ⟨q, 1, none⟩ = false := hs5.free
              have ht2 := hs5.cellAt (i := 1) (v := .slice pa r.ps.length pc) rfl
              have hs6 := hs5.setCell (i := 1) (.slice va ps'.length vc)
              have hs7 : Sat W (w2.setCell ⟨q, 1, none⟩ (.slice va ps'.length vc)) (RefS q n (.slice va ps'.length vc) (.slice la r.ds.length lc) * (PlR (.slice va ps'.length vc) ps' * (NdR (.slice la r.ds.length lc) r.ds * (Row 50 3 (.slice av ls.length cv) ls.length (flat Ln.cells ls) * R)))) := (hs6.eq (star_left_comm _ _ _)).right
              have HS7 := Lib.hid hs7
              clear hs4 hs5 hs6 hs7
              go_wp2_with fail
              go_loopw [13] (fun vi wr => ∃ i : Nat, ∃ la lc, ∃ ds : List Nd, i ≤ ls.length ∧ vi = .int .i64 i ∧ Hid (ds = r.ds ++ ndsOf c (ls.take i)) ∧ Sat W wr (RefS q n (.slice va ps'.length vc) (.slice la ds.length lc) * (PlR (.slice va ps'.length vc) ps' * (NdR (.slice la ds.length lc) ds * (Row 50 3 (.slice av ls.length cv) ls.length (flat Ln.cells ls) * R))))) (fun vi _ => (ls.length - intOf vi).toNat)
              case atStart => exact ⟨0, la, lc, r.ds, by omega, rfl, by unfold Hid; simp [ndsOf], HS7.out⟩
              case round =>
                obtain ⟨i, la, lc, ds, hi, rfl, HDs, hsr⟩ := hrel
                by_cases hli : i < ls.length
                · have hdl : ds.length ≤ 2000 := by
                    rw [HDs.out, List.length_append]
                    unfold ndsOf
                    rw [List.length_map]
                    have := List.length_take_le i ls
                    omega
                  have HNx : Hid (ds ++ [⟨c, ls[i]⟩] = r.ds ++ ndsOf c (ls.take (i + 1))) := by
                    unfold Hid
                    rw [ndsOf_snoc c ls i hli, HDs.out, List.append_assoc]
                  rcases HAv.out with h0 | ⟨b2, rfl⟩
                  · omega
                  · obtain ⟨e0, e1, e2⟩ := LnAt.of_row' hsr.right.right.right i hli
                    obtain ⟨la', lc', hla, hlc1, hlc2, hld2⟩ := hsr.right.right.row_slice
                    simp only [Value.slice.injEq] at hla
                    obtain ⟨rfl, _, rfl⟩ := hla
                    have hsd := hsr.drew
                    have t2 := hsr.cellAt (i := 2) (v := .slice la ds.length lc) rfl
                    have hsrc := row_src hsd.right.right
                    have hltq : q < wr.heap.size := hsr.lt
                    have hltb : b2 < wr.heap.size := World.block_lt_of_cell? wr _ e0
                    have HFd : Hid ((flat Nd.cells ds).length = ds.length * 4) := flat_length Nd.cells_length ds
                    have k0 : (0 : Int) ≤ i := by omega
                    have k1 : (i : Int) < ls.length := by omega
                    clear HDs hsr hld2 HO HS0 HSr HSc HS7 HOk HFp hf2 ht2
                    have hlen3 : (ds ++ [(⟨c, ls[i]⟩ : Nd)]).length = ds.length + 1 := by simp
                    have HLen3 := Lib.hid hlen3
                    clear hlen3
                    by_cases hz : ds.length = 0
                    · obtain rfl : ds = [] := List.eq_nil_of_length_eq_zero hz
                      have t3 : wr.cell? ⟨q, 2, none⟩ = some (.slice la 0 lc) := t2
                      clear t2 hz hsrc HFd hdl
                      go_wp2_with fail
                      go_region_law
                        (first
                          | (refine step_need_zero rfl (.tmp 82) (.tmp 86) rfl rfl rfl ?_)
                          | (refine step_need_new rfl (.tmp 87) (.tmp 94) rfl rfl (W := W) ((hsd.alloc_keep _).alloc_keep _) rfl (m := 1) (news := Nd.cells ⟨c, ls[i]⟩) (src4 (by simp [Addr.mk_add]; done) (by simp [Addr.mk_add]; done) (by simp [Addr.mk_add]; done) (by simp [Addr.mk_add]; done)) rfl (by omega) (by omega) ?_; intro v6 w6 hs6 _; obtain ⟨va6, vc6, rfl, _, _, _⟩ := hs6.row_slice; have hf6 : w6.frozen? ⟨q, 2, none⟩ = false := hs6.right.free; have ht6 := hs6.right.cellAt (i := 2) (v := .slice la 0 lc) rfl))
                      all_goals
                        have h7 : Sat W (w6.setCell ⟨q, 2, none⟩ (.slice va6 1 vc6)) (RefS q n (.slice va ps'.length vc) (.slice va6 1 vc6) * (Row 81 4 (.slice va6 1 vc6) 1 (Nd.cells ⟨c, ls[i]⟩) * (PlR (.slice va ps'.length vc) ps' * (NdR (.slice la ([] : List Nd).length lc) [] * (Row 50 3 (.slice (some ⟨b2, 0, none⟩) ls.length cv) ls.length (flat Ln.cells ls) * R))))) := ((hs6.eq (star_left_comm _ _ _)).setCell (i := 2) (.slice va6 1 vc6))
                        have h8 : Sat W (w6.setCell ⟨q, 2, none⟩ (.slice va6 1 vc6)) (RefS q n (.slice va ps'.length vc) (.slice va6 1 vc6) * (PlR (.slice va ps'.length vc) ps' * (NdR (.slice va6 1 vc6) ([] ++ [(⟨c, ls[i]⟩ : Nd)]) * (Row 50 3 (.slice (some ⟨b2, 0, none⟩) ls.length cv) ls.length (flat Ln.cells ls) * R)))) := by
                          refine (h7.eq (by ac_rfl : _ = NdR (.slice la ([] : List Nd).length lc) [] * (RefS q n (.slice va ps'.length vc) (.slice va6 1 vc6) * (PlR (.slice va ps'.length vc) ps' * (Row 81 4 (.slice va6 1 vc6) 1 (Nd.cells ⟨c, ls[i]⟩) * (Row 50 3 (.slice (some ⟨b2, 0, none⟩) ls.length cv) ls.length (flat Ln.cells ls) * R)))))).right.eq ?_
                          rfl
                        have HS8 := Lib.hid h8
                        clear h7 h8 hs6 hf6 ht6 hsd t3 e0 e1 e2
                        go_wp2_with fail
                        go_roundw
                        case rel => exact ⟨i + 1, va6, vc6, [] ++ [⟨c, ls[i]⟩], by omega, by go_num, HNx, by rw [HLen3.out]; exact HS8.out⟩
                        case measure => simp [intOf]; omega
                    · rcases hsrc with ⟨h1, h2, _⟩ | ⟨la2, lc2, h1, hsrc⟩
                      · exact absurd h2 hz
                      · simp only [Value.slice.injEq] at h1
                        obtain ⟨rfl, _, rfl⟩ := h1
                        have HSrc := Lib.hid hsrc
                        have hz0 : 0 < ds.length := by omega
                        clear hsrc hz
                        go_wp2_with fail
                        go_region_law
                          (first
                            | (refine step_need_new rfl (.tmp 82) (.tmp 86) rfl rfl (W := W) (by first | exact (hsd.alloc_keep _).alloc_keep _ | exact hsd.alloc_keep _) rfl (m := ds.length) (news := flat Nd.cells ds) (by intro j u hu; have h9 := HSrc.out j u hu; first | exact cell_alloc (cell_alloc h9 _) _ | exact cell_alloc h9 _) HFd.out hz0 (by omega) ?_; intro v5 w5 hs5 hb5; obtain ⟨e50, e51, e52⟩ := LnAt.of_row' hs5.right.right.right.right i hli)
                            | (refine step_need rfl (.tmp 87) (.tmp 94) rfl rfl (W := W) (by first | exact hs5 | exact hs5.alloc_keep _) rfl (m := 1) (news := Nd.cells ⟨c, ls[i]⟩) (.inr ⟨_, _, rfl, src4 (by first | (simp [Addr.mk_add]; done) | (rw [hb5.cell (by simp [Addr.mk_add]; try omega)]; simp [Addr.mk_add]; done)) (by first | (simp [Addr.mk_add]; done) | (rw [hb5.cell (by simp [Addr.mk_add]; try omega)]; simp [Addr.mk_add]; done)) (by first | (simp [Addr.mk_add]; done) | (rw [hb5.cell (by simp [Addr.mk_add]; try omega)]; simp [Addr.mk_add]; done)) (by first | (simp [Addr.mk_add]; done) | (rw [hb5.cell (by simp [Addr.mk_add]; try omega)]; simp [Addr.mk_add]; done))⟩) rfl (by intro u hu; simp [Nd.cells] at hu; rcases hu with rfl | rfl | rfl | rfl <;> rfl) (by omega) ?_; intro v6 w6 hs6; obtain ⟨va6, vc6, rfl, _, _, _⟩ := hs6.row_slice; have hf6 : w6.frozen? ⟨q, 2, none⟩ = false := hs6.right.free; have ht6 := hs6.right.cellAt (i := 2) (v := .slice (some la2) ds.length lc) rfl))
                        all_goals
                          have h7 : Sat W (w6.setCell ⟨q, 2, none⟩ (.slice va6 (ds.length + 1) vc6)) (RefS q n (.slice va ps'.length vc) (.slice va6 (ds.length + 1) vc6) * (Row 81 4 (.slice va6 (ds.length + 1) vc6) (ds.length + 1) (flat Nd.cells ds ++ Nd.cells ⟨c, ls[i]⟩) * (PlR (.slice va ps'.length vc) ps' * (NdR (.slice (some la2) ds.length lc) ds * (Row 50 3 (.slice (some ⟨b2, 0, none⟩) ls.length cv) ls.length (flat Ln.cells ls) * R))))) := ((hs6.eq (star_left_comm _ _ _)).setCell (i := 2) (.slice va6 (ds.length + 1) vc6))
                          have h8 : Sat W (w6.setCell ⟨q, 2, none⟩ (.slice va6 (ds.length + 1) vc6)) (RefS q n (.slice va ps'.length vc) (.slice va6 (ds.length + 1) vc6) * (PlR (.slice va ps'.length vc) ps' * (NdR (.slice va6 (ds.length + 1) vc6) (ds ++ [(⟨c, ls[i]⟩ : Nd)]) * (Row 50 3 (.slice (some ⟨b2, 0, none⟩) ls.length cv) ls.length (flat Ln.cells ls) * R)))) := by
                            refine (h7.eq (by ac_rfl : _ = NdR (.slice (some la2) ds.length lc) ds * (RefS q n (.slice va ps'.length vc) (.slice va6 (ds.length + 1) vc6) * (PlR (.slice va ps'.length vc) ps' * (Row 81 4 (.slice va6 (ds.length + 1) vc6) (ds.length + 1) (flat Nd.cells ds ++ Nd.cells ⟨c, ls[i]⟩) * (Row 50 3 (.slice (some ⟨b2, 0, none⟩) ls.length cv) ls.length (flat Ln.cells ls) * R)))))).right.eq ?_
                            have e3 : flat Nd.cells [(⟨c, ls[i]⟩ : Nd)] = Nd.cells ⟨c, ls[i]⟩ := rfl
                            rw [NdR, HLen3.out, flat_append, e3]
                          have HS8 := Lib.hid h8
                          clear h7 h8 hs6 hf6 ht6 hsd t2 e0 e1 e2 hs5 hb5 e50 e51 e52
                          go_wp2_with fail
                          go_roundw
                          case rel => exact ⟨i + 1, va6, vc6, ds ++ [⟨c, ls[i]⟩], by omega, by go_num, HNx, by rw [HLen3.out]; exact HS8.out⟩
                          case measure => simp [intOf]; omega
                · obtain rfl : i = ls.length := by omega
                  rw [List.take_length] at HDs
                  have HSr := Lib.hid hsr
                  clear hsr
                  go_wp2_with fail
                  go_ret2
                  rw [HM.out]
                  have := HDs.out
                  subst this
                  exact ⟨rfl, RefH.shut HSr.out⟩
          · obtain rfl : c = n := by omega
            have HM := Lib.hid (HFf.out HF.out)
            clear hsc hs1 HGg HFf
            go_wp2_with fail
            go_ret2
            rw [HM.out]
            exact ⟨rfl, HSc.out⟩
end
end Go.Proofs.Ytlejhnigbmgbpaa
