import Derived.Test.YtlejhnigbmgbpaaW32
import Derived.Deep.RegionHeld3
import Derived.Deep.DeepCutAuto
import Derived.Deep.CutBlock
namespace Go.Proofs.Ytlejhnigbmgbpaa
open Go.RowKit Go.Lamp

theorem Try.infoPlace : (Try.prog.info? 79).map (fun i => (i.zero, i.size, i.bytes)) = some (some (.agg #[.int .i64 0, .int .u32 0]), 2, 16) := by kernel_rfl
theorem Try.infoNeed : (Try.prog.info? 81).map (fun i => (i.zero, i.size, i.bytes)) = some (some (.agg #[.int .i64 0, .int .u16 0, .int .u16 0, .int .i64 0]), 4, 24) := by kernel_rfl
theorem append_place {W w : World} {R : HProp} {ops : Array Oper} {rest : List Oper} {o : Oper} {a : Act} {Q : Exit → Act → World → Prop} (hgd : o.guard = none) (s x : Operand)
    (ho : o.op = .call { callee := .builtin .append, args := #[s, x], argTypes := #[58, 58] })
    {v : Value} {n : Nat} {xs : List Value} (hs : a.eval s = v) (hown : Sat W w (Row 79 2 v n xs * R))
    {sv : Value} {m : Nat} {news : List Value} (hx : a.eval x = sv) (hsrc : Src w sv m news) (hl : news.length = m * 2) (h1 : ∀ u ∈ news, u.oneCell' = true) (hn : n + m ≤ 1048576)
    (h : ∀ v' w', Sat W w' (Row 79 2 v' (n + m) (xs ++ news) * R) → (v' = .slice none 0 0 ↔ v = .slice none 0 0 ∧ m = 0) → wpList Try.prog ops Q rest (a.put o.dst v') w') : wpList Try.prog ops Q (o :: rest) a w := by
  obtain ⟨i0, hi, hz0, hz1, hz2⟩ := info_parts Try.infoPlace
  exact wpList_append_sat hgd s x _ ho Try.underlying58 hi hz0 hz1 hz2 rfl hs hown hx hsrc hl h1 (by unfold maxLen; omega) (by omega) h
theorem append_need {W w : World} {R : HProp} {ops : Array Oper} {rest : List Oper} {o : Oper} {a : Act} {Q : Exit → Act → World → Prop} (hgd : o.guard = none) (s x : Operand)
    (ho : o.op = .call { callee := .builtin .append, args := #[s, x], argTypes := #[59, 59] })
    {v : Value} {n : Nat} {xs : List Value} (hs : a.eval s = v) (hown : Sat W w (Row 81 4 v n xs * R))
    {sv : Value} {m : Nat} {news : List Value} (hx : a.eval x = sv) (hsrc : Src w sv m news) (hl : news.length = m * 4) (h1 : ∀ u ∈ news, u.oneCell' = true) (hn : n + m ≤ 1048576)
    (h : ∀ v' w', Sat W w' (Row 81 4 v' (n + m) (xs ++ news) * R) → (v' = .slice none 0 0 ↔ v = .slice none 0 0 ∧ m = 0) → wpList Try.prog ops Q rest (a.put o.dst v') w') : wpList Try.prog ops Q (o :: rest) a w := by
  obtain ⟨i0, hi, hz0, hz1, hz2⟩ := info_parts Try.infoNeed
  exact wpList_append_sat hgd s x _ ho Try.underlying59 hi hz0 hz1 hz2 rfl hs hown hx hsrc hl h1 (by unfold maxLen; omega) (by omega) h
/-- The same as one step of a region that draws its order. -/
theorem step_need {W w : World} {R : HProp} {ops : Array Oper} {o : Oper} {a : Act} {K : Act → World → Prop} {Q : Exit → Act → World → Prop} {E : Prop} (hgd : o.guard = none) (s x : Operand)
    (ho : o.op = .call { callee := .builtin .append, args := #[s, x], argTypes := #[59, 59] })
    {v : Value} {n : Nat} {xs : List Value} (hs : a.eval s = v) (hown : Sat W w (Row 81 4 v n xs * R))
    {sv : Value} {m : Nat} {news : List Value} (hx : a.eval x = sv) (hsrc : Src w sv m news) (hl : news.length = m * 4) (h1 : ∀ u ∈ news, u.oneCell' = true) (hn : n + m ≤ 1048576)
    (h : ∀ v' w', Sat W w' (Row 81 4 v' (n + m) (xs ++ news) * R) → K (a.put o.dst v') w') : if Region.wanted o (yielded ops a.tmps) = true then Oper.wp Try.prog o a w K Q else E := by
  have hw : Region.wanted o (yielded ops a.tmps) = true := by simp [Region.wanted, hgd]
  rw [if_pos hw]
  obtain ⟨i0, hi, hz0, hz1, hz2⟩ := info_parts Try.infoNeed
  obtain ⟨v', w', hr, h2, h3⟩ := Sat.append (ty := o.type) hown Try.underlying59 hi hz0 hz1 hz2 rfl hsrc hl h1 (by unfold maxLen; omega) (by omega)
  unfold Oper.wp
  simp [execOp, ho, resolve, invoke, builtin, hs, hx, hr, Result.andThen]
  exact h _ _ h2

section
variable {W w : World} {q n : Nat} {r : Ref} {R : HProp}
theorem PlAt.of_row' {b m cap : Nat} {ps : List Pl} {v : Value} (h : Sat W w (PlR v ps * R)) (hv : v = .slice (some ⟨b, 0, none⟩) m cap) : PlAt w b ps := by
  obtain ⟨a, c, rfl, _, _, h4⟩ := PlAt.of_row h
  simp only [Value.slice.injEq] at hv
  obtain ⟨rfl, _, _⟩ := hv
  rcases h4 with h0 | ⟨b', hb, hat⟩
  · intro k hk; omega
  · simp only [Option.some.injEq, Addr.mk.injEq] at hb
    obtain ⟨rfl, _⟩ := hb
    exact hat
theorem NdAt.of_row' {b m cap : Nat} {ds : List Nd} {v : Value} (h : Sat W w (NdR v ds * R)) (hv : v = .slice (some ⟨b, 0, none⟩) m cap) : NdAt w b ds := by
  obtain ⟨a, c, rfl, _, _, h4⟩ := NdAt.of_row h
  simp only [Value.slice.injEq] at hv
  obtain ⟨rfl, _, _⟩ := hv
  rcases h4 with h0 | ⟨b', hb, hat⟩
  · intro k hk; omega
  · simp only [Option.some.injEq, Addr.mk.injEq] at hb
    obtain ⟨rfl, _⟩ := hb
    exact hat

/-- A new one. -/
def RNewPost (W : World) (R : HProp) (n : Nat) (en : Ending) (w' : World) : Prop :=
  ∃ q, en = .returned (.pointer (some ⟨q, 0, none⟩)) ∧ Sat W w' (RefH q n ⟨[], []⟩ * R)
set_option maxHeartbeats 400000 in
theorem rnew_calls (c : Int) (hs : Sat W w R) : Calls Try.prog 21 #[.int .i64 c] w (RNewPost W R (newM c).length) := by
  obtain ⟨m, hm, h1, h16⟩ : ∃ m : Nat, (m : Int) = min (max c 1) 16 ∧ 1 ≤ m ∧ m ≤ 16 := ⟨(min (max c 1) 16).toNat, by omega, by omega, by omega⟩
  have hM : (newM c).length = m := by unfold newM; simp; omega
  rw [hM]
  have hfin : Hid (Sat W (w.alloc (.cells #[.int .i64 m, .slice none 0 0, .slice none 0 0] 61)) (RefH w.heap.size m ⟨[], []⟩ * R)) := by
    refine RefH.shut (pv := .slice none 0 0) (lv := .slice none 0 0) ?_
    exact ((((hs.row_nil 81 4).row_nil 79 2)).alloc (.cells #[.int .i64 m, .slice none 0 0, .slice none 0 0] 61))
  clear hM hs
  rcases Int.lt_or_le c 1 with hn | hn
  · obtain rfl : m = 1 := by omega
    clear hm
    go_enter Try.func21, Try.ntmps21
    go_wp2_with fail
    go_ret
    exact ⟨_, rfl, hfin.out⟩
  · rcases Int.lt_or_le 16 c with hn2 | hn2
    · obtain rfl : m = 16 := by omega
      clear hm
      go_enter Try.func21, Try.ntmps21
      go_wp2_with fail
      go_ret
      exact ⟨_, rfl, hfin.out⟩
    · obtain rfl : c = m := by omega
      clear hm
      go_enter Try.func21, Try.ntmps21
      go_wp2_with fail
      go_ret
      exact ⟨_, rfl, hfin.out⟩

def RefPost (W : World) (q n : Nat) (R : HProp) (r : Ref) (v : Value) (en : Ending) (w' : World) : Prop :=
  en = .returned v ∧ Sat W w' (RefH q n r * R)

theorem filter_take {α : Type} (f : α → Bool) (l : List α) (i : Nat) (hi : i < l.length) : (l.take (i + 1)).filter f = (l.take i).filter f ++ if f l[i] then [l[i]] else [] := by
  rw [List.take_succ_eq_append_getElem hi, List.filter_append]
  cases h : f l[i] <;> simp [h]

set_option maxHeartbeats 1000000 in
theorem rrelease_calls (c : Int) (hb : Bounded r) (hs : Sat W w (RefH q n r * R)) :
    Calls Try.prog 25 #[.pointer (some ⟨q, 0, none⟩), .int .i64 c] w (RefPost W q n R (releaseR r c).2 (.tuple #[.int .u32 (releaseR r c).1.1, .int .i64 (releaseR r c).1.2])) := by
  have HF := Lib.hid (rfull_calls c hb hs)
  have HO := Lib.hid (rorder_calls c hb hs)
  unfold releaseR
  cases hf : fullR r c with
  | false =>
    rw [hf] at HF
    simp only [Bool.false_eq_true, if_false]
    clear hf
    go_enter Try.func25, Try.ntmps25
    go_wp2_with fail
    refine HF.out.mono ?_
    rintro e w' ⟨rfl, rfl⟩
    go_wp2_with fail
    go_ret2
    exact ⟨rfl, hs⟩
  | true =>
    rw [hf] at HF
    simp only [if_true]
    obtain ⟨pa, pc, la, lc, hs1, t0, t1, t2, hp, hd⟩ := RefH.open hs
    have HP : Hid (r.ps.length = 0 ∨ ∃ b, pa = some ⟨b, 0, none⟩) := hp.imp id fun ⟨b, h, _⟩ => ⟨b, h⟩
    have hlen : r.ps.length ≤ 100 := hb.1
    have HS1 := Lib.hid hs1
    clear hs hb hp hd hs1 hf
    generalize orderR r c = o at *
    go_enter Try.func25, Try.ntmps25
    go_wp2_with fail
    refine HF.out.mono ?_
    rintro e w' ⟨rfl, rfl⟩
    go_wp2_with fail
    refine HO.out.mono ?_
    rintro e w' ⟨rfl, rfl⟩
    clear t0 t1 t2
    go_wp2_with fail
    go_loopw [9, 10] (fun v vi wr => ∃ i : Nat, i ≤ r.ps.length ∧ vi = .int .i64 i ∧ Sat W wr (PlR v ((r.ps.take i).filter (fun p => p.cubby != c)) * (RefS q n (.slice pa r.ps.length pc) (.slice la r.ds.length lc) * (PlR (.slice pa r.ps.length pc) r.ps * (NdR (.slice la r.ds.length lc) r.ds * R))))) (fun _ vi _ => (r.ps.length - intOf vi).toNat)
    case atStart => exact ⟨0, by omega, rfl, HS1.out.row_nil _ _⟩
    case round =>
      obtain ⟨i, hi, rfl, hsr⟩ := hrel
      have t1 := hsr.right.cellAt (i := 1) (v := .slice pa r.ps.length pc) rfl
      by_cases hlt : i < r.ps.length
      · have hsn := filter_take (fun p : Pl => p.cubby != c) r.ps i hlt
        have hfl : ((r.ps.take i).filter (fun p => p.cubby != c)).length ≤ 100 := by
          have h1 := List.length_filter_le (fun p : Pl => p.cubby != c) (r.ps.take i)
          have h2 := List.length_take_le i r.ps
          omega
        have HSr := Lib.hid hsr
        rcases HP.out with h0 | ⟨b, rfl⟩
        · omega
        · obtain ⟨c0, c1⟩ := PlAt.of_row' hsr.right.right rfl i hlt
          cases hc : r.ps[i].cubby == c
          · have hc2 : (r.ps[i].cubby != c) = true := by simpa using hc
            rw [hc2, if_pos rfl] at hsn
            have HSn := Lib.hid hsn
            clear hsn hsr
            go_wp2_with (at_builtin; go_must (refine append_place rfl (.tmp 41) (.tmp 49) rfl rfl (W := W) (HSr.out.alloc_keep _) rfl (sv := .slice (some ⟨wr.heap.size, 0, none⟩) 1 1) (m := 1) (news := Pl.cells r.ps[i]) (.inr ⟨_, _, rfl, fun j u hu => ?_⟩) rfl ?_ ?_ (fun v' w' hs' _ => ?_)))
            case refine_1 => exact cells_new wr #[.int .i64 r.ps[i].cubby, .int .u32 r.ps[i].order] 79 j _ hu
            case refine_2 =>
              intro u hu
              simp [Pl.cells] at hu
              rcases hu with rfl | rfl <;> rfl
            case refine_3 => omega
            have hs2 : Sat W w' (PlR v' ((r.ps.take (i + 1)).filter (fun p => p.cubby != c)) * (RefS q n (.slice (some ⟨b, 0, none⟩) r.ps.length pc) (.slice la r.ds.length lc) * (PlR (.slice (some ⟨b, 0, none⟩) r.ps.length pc) r.ps * (NdR (.slice la r.ds.length lc) r.ds * R)))) := by
              rw [HSn.out, PlR, flat_append, List.length_append]
              simpa [flat] using hs'
            have HS2 := Lib.hid hs2
            clear hs2 hs' hc hc2
            go_wp2_with fail
            go_roundw
            case rel => exact ⟨i + 1, by omega, by go_num, HS2.out⟩
            case measure => simp [intOf]; omega
          · have hc2 : (r.ps[i].cubby != c) = false := by simpa using hc
            rw [hc2, if_neg (by simp), List.append_nil] at hsn
            have HSn := Lib.hid hsn
            clear hsn hsr
            go_wp2_with fail
            clear hc hc2
            go_roundw
            case rel => exact ⟨i + 1, by omega, by go_num, by rw [HSn.out]; exact HSr.out⟩
            case measure => simp [intOf]; omega
      · obtain rfl : i = r.ps.length := by omega
        rw [List.take_length] at hsr
        obtain ⟨xa, xc, rfl, _, _, _⟩ := hsr.row_slice
        have hs5 := hsr.eq (by ac_rfl : _ = RefS q n (.slice pa r.ps.length pc) (.slice la r.ds.length lc) * (PlR (.slice pa r.ps.length pc) r.ps * (PlR (.slice xa (r.ps.filter (fun p => p.cubby != c)).length xc) (r.ps.filter (fun p => p.cubby != c)) * (NdR (.slice la r.ds.length lc) r.ds * R))))
        have hfr : wr.frozen? ⟨q, 1, none⟩ = false := hs5.free
        have HS5 := Lib.hid hs5
        clear hsr hs5
        go_wp2_with fail
        go_ret2
        refine ⟨rfl, RefH.shut (pv := .slice xa (r.ps.filter (fun p => p.cubby != c)).length xc) (lv := .slice la r.ds.length lc) ?_⟩
        have h6 := HS5.out.setCell (i := 1) (.slice xa (r.ps.filter (fun p => p.cubby != c)).length xc)
        exact ((h6.eq (star_left_comm _ _ _)).right)
end
end Go.Proofs.Ytlejhnigbmgbpaa
