import Derived.Test.YtlejhnigbmgbpaaW8
namespace Go.Proofs.Ytlejhnigbmgbpaa
open Go.RowKit Go.Lamp

def Cub.put (c : Cub) (item qty : Int) : Int × Cub :=
  if foundAt c.needs item then
    match c.needs[lower c.needs item]? with
    | some l => if qty < 1 then (10, c) else if l.qty < qty then (10, c) else
        if l.qty = qty then (0, { c with needs := c.needs.eraseIdx (lower c.needs item) })
        else (0, { c with needs := c.needs.set (lower c.needs item) { l with qty := l.qty - qty } })
    | none => (11, c)
  else (11, c)

theorem found_get {ls : List Ln} {item : Int} (h : foundAt ls item = true) : ∃ hi : lower ls item < ls.length, ls[lower ls item].item = item := by
  unfold foundAt at h
  split at h
  · rename_i l hl
    obtain ⟨hi, rfl⟩ := List.getElem?_eq_some_iff.1 hl
    exact ⟨hi, by simpa using h⟩
  · cases h

/-- A wall after one cubby has turned. -/
def PutPost (W : World) (p bl : Nat) (R : HProp) (cubs : List Cub) (err : Int) (en : Ending) (w' : World) : Prop :=
  en = .returned (.int .i64 err) ∧ ∃ gs : List CubG, gs.map (·.1) = cubs ∧ Sat W w' (WallB p bl gs * R)

theorem flat_set3 {α : Type} {f : α → List Value} (hf : ∀ a, (f a).length = 3) (l : List α) (k : Nat) (hk : k < l.length) (a b c : Value) (x' : α) (hx : f x' = [a, b, c]) :
    (((flat f l).set (k * 3) a).set (k * 3 + 1) b).set (k * 3 + 2) c = flat f (l.set k x') := by
  induction l generalizing k with
  | nil => simp at hk
  | cons x l ih =>
    cases k with
    | zero =>
      obtain ⟨x0, x1, x2, hx3⟩ : ∃ x0 x1 x2, f x = [x0, x1, x2] := by
        have := hf x
        match h : f x, this with
        | [x0, x1, x2], _ => exact ⟨x0, x1, x2, rfl⟩
      simp [flat_cons, hx3, hx]
    | succ k =>
      simp only [flat_cons, List.set_cons_succ]
      rw [List.set_append_right _ _ (by rw [hf]; omega), List.set_append_right _ _ (by rw [hf]; omega), List.set_append_right _ _ (by rw [hf]; omega)]
      rw [show (k + 1) * 3 - (f x).length = k * 3 by rw [hf]; omega, show (k + 1) * 3 + 1 - (f x).length = k * 3 + 1 by rw [hf]; omega, show (k + 1) * 3 + 2 - (f x).length = k * 3 + 2 by rw [hf]; omega]
      rw [ih k (by simpa using hk)]

theorem eraseIdx_set_same {α : Type} (l : List α) (k : Nat) (x : α) : (l.set k x).eraseIdx k = l.eraseIdx k := by
  induction l generalizing k with
  | nil => rfl
  | cons a l ih => cases k with
    | zero => rfl
    | succ k => simp [ih]
/-- A wall out of its parts, of which one cubby has turned. -/
theorem WallB.of_parts {W w : World} {p bl : Nat} {gs : List CubG} {R : HProp} {k : Nat} (hk : k < gs.length) (x : CubG) {v : Value} (hv : CubG.v x = v)
    (h : Sat W w (Row 50 3 v x.1.needs.length (flat Ln.cells x.1.needs) * (bigs ((gs.map cubRow).eraseIdx k) * (blk bl (.cells (flat CubG.cells (gs.set k x)).toArray 72 (0, 0)) * blk p (.cells #[.slice (some ⟨bl, 0, none⟩) gs.length gs.length] 66 (0, 0))) * R))) :
    Sat W w (WallB p bl (gs.set k x) * R) := by
  have hk' : k < (gs.set k x).length := by simpa using hk
  refine h.eq ?_
  rw [WallB.split hk', WallRest, List.getElem_set_self, hv, List.map_set, eraseIdx_set_same, List.length_set]
  ac_rfl
theorem flat_same {gs : List CubG} {k : Nat} (hk : k < gs.length) (x : CubG) (hx : CubG.cells x = CubG.cells gs[k]) : flat CubG.cells (gs.set k x) = flat CubG.cells gs := by
  apply List.ext_getElem?
  intro j
  unfold flat
  congr 1
  rw [List.flatMap_def, List.flatMap_def, List.map_set, hx]
  congr 1
  apply List.ext_getElem?
  intro i
  rw [List.getElem?_set]
  split
  · rename_i h; subst h; simp [hk]
  · rfl

set_option maxHeartbeats 1000000 in
theorem put_calls {W w : World} {p bl : Nat} {gs : List CubG} {R : HProp} (k : Nat) (item qty : Int) (hok : WallOk (gs.map (·.1))) (hk : k < gs.length) (hs : Sat W w (WallB p bl gs * R)) (hq : -9223372036854775808 ≤ qty) :
    Calls Try.prog 36 #[.pointer (some ⟨bl, k * 3, none⟩), .int .u16 item, .int .i64 qty] w
      (PutPost W p bl R ((gs.map (·.1)).set k (Cub.put gs[k].1 item qty).2) (Cub.put gs[k].1 item qty).1) := by
  have hc := hok.2.2 gs[k].1 (List.mem_map.2 ⟨gs[k], List.getElem_mem hk, rfl⟩)
  obtain ⟨hc0, hc1, hc2⟩ := WallB.at hs k hk
  have hrow := WallB.need hs hk
  have hself : (gs.map (·.1)).set k gs[k].1 = gs.map (·.1) := by
    apply List.ext_getElem?
    intro j
    rw [List.getElem?_set]
    split
    · rename_i h; subst h; simp [hk]
    · rfl
  have HP := Lib.hid (place_calls bl (k * 3) item hrow hc.rising (by have := hc.many; omega) hc2)
  cases hf : foundAt gs[k].1.needs item with
  | false =>
    have HM : Hid (Cub.put gs[k].1 item qty = (11, gs[k].1)) := by unfold Hid Cub.put; rw [hf]; rfl
    have HF := Lib.hid hf
    have HQ := Lib.hid hq
    have HOk := Lib.hid hok
    have HSelf := Lib.hid hself
    rw [HM.out]
    clear hf hq hok hself hc hrow
    go_enter Try.func36, Try.ntmps36
    go_wp2_with fail
    refine HP.out.mono ?_
    rintro e w1 ⟨rfl, hb1⟩
    rw [HF.out]
    go_wp2_with fail
    go_ret
    exact ⟨rfl, gs, HSelf.out.symm, hs.below hb1⟩
  | true =>
    obtain ⟨hi, hit⟩ := found_get hf
    have HF := Lib.hid hf
    have hl0 := hc.each _ (List.getElem_mem hi)
    have hmany := hc.many
    obtain ⟨hq1, hq2⟩ := hl0.2.2
    have HMd : Hid (Cub.put gs[k].1 item qty = if qty < 1 then (10, gs[k].1) else if gs[k].1.needs[lower gs[k].1.needs item].qty < qty then (10, gs[k].1) else
        if gs[k].1.needs[lower gs[k].1.needs item].qty = qty then (0, { gs[k].1 with needs := gs[k].1.needs.eraseIdx (lower gs[k].1.needs item) })
        else (0, { gs[k].1 with needs := gs[k].1.needs.set (lower gs[k].1.needs item) { gs[k].1.needs[lower gs[k].1.needs item] with qty := gs[k].1.needs[lower gs[k].1.needs item].qty - qty } })) := by
      unfold Hid Cub.put
      rw [hf, List.getElem?_eq_getElem hi]
      rfl
    rcases hrow.row_cases with ⟨_, h0, _⟩ | ⟨g, cap, cur, hv, hcap, hmax, hcs, htake, hbk⟩
    · omega
    have hv' : Value.slice (gs[k].2.1.map fun b => ⟨b, 0, none⟩) gs[k].1.needs.length gs[k].2.2 = .slice (some ⟨g, 0, none⟩) gs[k].1.needs.length cap := hv
    rw [hv'] at hc2
    generalize hig : lower gs[k].1.needs item = i at *
    have HI := Lib.hid hig
    clear hig
    have HV := Lib.hid hv
    have HV' := Lib.hid hv'
    have hcell : w.cell? ⟨g, i * 3 + 2, none⟩ = some (.int .i64 gs[k].1.needs[i].qty) := by
      rw [hbk.cell]
      have h2 := flat_get Ln.cells_length gs[k].1.needs i 2 hi (by omega)
      rw [← htake, List.getElem?_take, if_pos (by omega)] at h2
      simpa [Ln.cells] using h2
    have hfr : ∀ w1, Below w.heap.size w w1 → w1.frozen? ⟨g, i * 3 + 2, none⟩ = false := fun w1 hb => (hbk.below hb).free
    have hfb : ∀ w1, Below w.heap.size w w1 → w1.frozen? ⟨bl, k * 3 + 2, none⟩ = false := fun w1 hb => ((WallB.row hs).below hb).free
    have HFr := Lib.hid hfr
    have HFb := Lib.hid hfb
    have hne : g ≠ bl := by
      have h2 := hbk
      unfold WallRest at h2
      exact (h2.eq (by ac_rfl : _ = blk g (.cells cur 50 (0, 0)) * (blk bl (.cells (flat CubG.cells gs).toArray 72 (0, 0)) * (bigs ((gs.map cubRow).eraseIdx k) * (blk p (.cells #[.slice (some ⟨bl, 0, none⟩) gs.length gs.length] 66 (0, 0)) * R))))).ne
    have hne' : bl ≠ g := fun e => hne e.symm
    have hltg := hbk.lt
    have hltb := World.block_lt_of_cell? w _ hc2
    simp only at hltb
    have hlen : i < gs[k].1.needs.length := hi
    have i1 : (i : Int) < gs[k].1.needs.length := by omega
    have i2 : (0 : Int) ≤ i := by omega
    have HSelf := Lib.hid hself
    have HOk := Lib.hid hok
    have HRow := Lib.hid hrow
    have HBk := Lib.hid hbk
    have HT := Lib.hid htake
    have HCS := Lib.hid hcs
    clear hself hok hrow hbk htake hcs hf hv hv' hit hc hl0 hfr hfb
    by_cases c1 : qty < 1
    · rw [HMd.out, if_pos c1]
      go_enter Try.func36, Try.ntmps36
      go_wp2_with fail
      refine HP.out.mono ?_
      rintro e w1 ⟨rfl, hb1⟩
      rw [HF.out]
      go_wp2_with fail
      go_ret
      exact ⟨rfl, gs, HSelf.out.symm, hs.below hb1⟩
    · rw [HMd.out, if_neg c1]
      generalize hqg : gs[k].1.needs[i].qty = q at *
      have HQg := Lib.hid hqg
      clear hqg
      by_cases c2 : q < qty
      · rw [if_pos c2]
        go_enter Try.func36, Try.ntmps36
        go_wp2_with fail
        refine HP.out.mono ?_
        rintro e w1 ⟨rfl, hb1⟩
        rw [HF.out]
        have d2 : w1.cell? ⟨bl, k * 3 + 2, none⟩ = _ := (hb1.cell (p := ⟨bl, k * 3 + 2, none⟩) hltb).trans hc2
        have dq : w1.cell? ⟨g, i * 3 + 2, none⟩ = _ := (hb1.cell (p := ⟨g, i * 3 + 2, none⟩) hltg).trans hcell
        go_wp2_with fail
        go_ret
        exact ⟨rfl, gs, HSelf.out.symm, hs.below hb1⟩
      · rw [if_neg c2]
        have hset : ((cur.setIfInBounds (i * 3 + 2) (.int .i64 (q - qty))).toList.take (gs[k].1.needs.length * 3)) = flat Ln.cells (gs[k].1.needs.set i { gs[k].1.needs[i] with qty := q - qty }) := by
          rw [Array.toList_setIfInBounds, List.take_set, HT.out]
          exact flat_set Ln.cells_length _ i 2 hi (by omega) _ _ (by simp [Ln.cells])
        have HSet := Lib.hid hset
        clear hset
        by_cases c3 : q = qty
        · rw [if_pos c3]
          subst c3
          have hz : q - q = 0 := by omega
          rw [hz] at HSet
          go_enter Try.func36, Try.ntmps36
          go_wp2_with fail
          refine HP.out.mono ?_
          rintro e w1 ⟨rfl, hb1⟩
          rw [HF.out]
          have d2 : w1.cell? ⟨bl, k * 3 + 2, none⟩ = _ := (hb1.cell (p := ⟨bl, k * 3 + 2, none⟩) hltb).trans hc2
          have dq : w1.cell? ⟨g, i * 3 + 2, none⟩ = _ := (hb1.cell (p := ⟨g, i * 3 + 2, none⟩) hltg).trans hcell
          have df := HFr.out w1 hb1
          have db := HFb.out w1 hb1
          go_wp2_with fail
          have hb2 := ((HBk.out.below hb1).setCell (i := i * 3 + 2) (.int .i64 0))
          refine (delete_calls g cap gs[k].1.needs.length i _ _ (by rw [List.length_set]) hi (by omega) hcap (by rw [Array.size_setIfInBounds]; exact HCS.out) HSet.out hb2).mono ?_
          rintro e w2 ⟨rfl, cur2, hcs2, ht2, hs2⟩
          have hs3 : Sat W w2 (blk bl (.cells (flat CubG.cells gs).toArray 72 (0, 0)) * (blk g (.cells cur2 50 (0, 0)) * (bigs ((gs.map cubRow).eraseIdx k) * (blk p (.cells #[.slice (some ⟨bl, 0, none⟩) gs.length gs.length] 66 (0, 0)) * R)))) := hs2.eq (by unfold WallRest; ac_rfl)
          have d3 : w2.cell? ⟨bl, k * 3 + 2, none⟩ = some (.slice (some ⟨g, 0, none⟩) gs[k].1.needs.length cap) := by
            rw [hs3.cell, ← HV.out]
            have h2 := flat_get CubG.cells_length gs k 2 hk (by omega)
            simpa [CubG.cells] using h2
          have d4 : w2.frozen? ⟨bl, k * 3 + 2, none⟩ = false := hs3.free
          have HCS2 := Lib.hid hcs2
          have HT2 := Lib.hid ht2
          have HS3 := Lib.hid hs3
          clear hcs2 ht2 hs2 hb2 hs3
          go_wp2_with fail
          go_ret
          have hlen : (gs[k].1.needs.eraseIdx i).length = gs[k].1.needs.length - 1 := List.length_eraseIdx_of_lt hi
          refine ⟨rfl, gs.set k ({ gs[k].1 with needs := gs[k].1.needs.eraseIdx i }, some g, cap), by rw [List.map_set], ?_⟩
          have hs5 := HS3.out.setCell (i := k * 3 + 2) (.slice (some ⟨g, 0, none⟩) (gs[k].1.needs.length - 1) cap)
          rw [List.setIfInBounds_toArray] at hs5
          rw [flat_set CubG.cells_length gs k 2 hk (by omega) _ ({ gs[k].1 with needs := gs[k].1.needs.eraseIdx i }, some g, cap) (by simp [CubG.cells, hlen])] at hs5
          refine WallB.of_parts hk _ (v := .slice (some ⟨g, 0, none⟩) (gs[k].1.needs.length - 1) cap) (by simp [CubG.v, hlen]) ?_
          have hrow2 := (hs5.eq (star_left_comm _ _ _)).row_mk (n := gs[k].1.needs.length - 1) (size := 3) (by omega) hmax HCS2.out
          rw [HT2.out, eraseIdx_set_same] at hrow2
          simp only [hlen]
          exact hrow2.eq (by ac_rfl)
        · rw [if_neg c3]
          have c4 : ((q - qty) == 0) = false := by simp; omega
          go_enter Try.func36, Try.ntmps36
          go_wp2_with fail
          refine HP.out.mono ?_
          rintro e w1 ⟨rfl, hb1⟩
          rw [HF.out]
          have d2 : w1.cell? ⟨bl, k * 3 + 2, none⟩ = _ := (hb1.cell (p := ⟨bl, k * 3 + 2, none⟩) hltb).trans hc2
          have dq : w1.cell? ⟨g, i * 3 + 2, none⟩ = _ := (hb1.cell (p := ⟨g, i * 3 + 2, none⟩) hltg).trans hcell
          have df := HFr.out w1 hb1
          go_wp2_with fail
          go_ret
          refine ⟨rfl, gs.set k ({ gs[k].1 with needs := gs[k].1.needs.set i { gs[k].1.needs[i] with qty := q - qty } }, some g, cap), by rw [List.map_set], ?_⟩
          have hb2 := ((HBk.out.below hb1).setCell (i := i * 3 + 2) (.int .i64 (q - qty))).row_mk (n := gs[k].1.needs.length) (size := 3) hcap hmax (by rw [Array.size_setIfInBounds]; exact HCS.out)
          rw [HSet.out] at hb2
          refine WallB.of_parts hk _ (v := .slice (some ⟨g, 0, none⟩) gs[k].1.needs.length cap) (by simp [CubG.v]) ?_
          rw [flat_same hk _ (by simp only [CubG.cells, CubG.v, List.length_set]; rw [HV'.out]; rfl)]
          simp only [List.length_set]
          exact hb2.eq (by unfold WallRest; ac_rfl)
end Go.Proofs.Ytlejhnigbmgbpaa
