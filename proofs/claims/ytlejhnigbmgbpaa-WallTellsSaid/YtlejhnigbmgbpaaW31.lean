import Derived.Test.YtlejhnigbmgbpaaW30
import Derived.Test.YtlejhnigbmgbpaaW28
namespace Go.Proofs.Ytlejhnigbmgbpaa
open Go.RowKit Go.Lamp

theorem erase_perm {α : Type} {l : List α} {i : Nat} (h : i < l.length) : (l[i] :: l.eraseIdx i).Perm l := by
  have e : l = l.take i ++ l[i] :: l.drop (i + 1) := by simp
  rw [List.eraseIdx_eq_take_drop_succ]
  conv => rhs; rw [e]
  exact List.perm_middle.symm
theorem set_perm {α : Type} {l : List α} {i : Nat} (h : i < l.length) (a : α) : (l.set i a).Perm (a :: l.eraseIdx i) := by
  rw [List.eraseIdx_eq_take_drop_succ, List.set_eq_take_append_cons_drop, if_pos h]
  exact List.perm_middle
/-! What the document's answer does at a step; it stays as the wall is. -/
section
variable {cubs : List Cub} {r : Ref}
def putR (r : Ref) (cubby item qty : Int) : Int × Ref :=
  if (orderR r cubby).2 = false then (6, r) else
  match r.ds.findIdx? (isNd cubby item) with
  | none => (11, r)
  | some i => match r.ds[i]? with
    | none => (11, r)
    | some x => if qty < 1 ∨ x.line.qty < qty then (10, r) else
        (0, { r with ds := r.ds.eraseIdx i ++ if x.line.qty - qty > 0 then [⟨x.cubby, { x.line with qty := x.line.qty - qty }⟩] else [] })
def lessR (r : Ref) (order item qty : Int) : Int × Ref := if cubbyR r order < 0 then (6, r) else putR r (cubbyR r order) item qty
def fullR (r : Ref) (cubby : Int) : Bool := (orderR r cubby).2 && r.ds.all (fun d => d.cubby != cubby)
def releaseR (r : Ref) (cubby : Int) : (Int × Int) × Ref :=
  if fullR r cubby then (((orderR r cubby).1, 0), { r with ps := r.ps.filter (fun p => p.cubby != cubby) }) else ((0, 7), r)
def assignR (n : Nat) (r : Ref) (order : Int) (ls : List Ln) : (Int × Int) × Ref :=
  if 0 ≤ cubbyR r order then ((0, 8), r)
  else if okLines ls = false then ((0, 1), r)
  else match (List.range n).find? (fun c : Nat => !(orderR r c).2) with
    | none => ((0, 5), r)
    | some c => ((c, 0), ⟨r.ps ++ [⟨c, order⟩], r.ds ++ ls.map (⟨c, ·⟩)⟩)

theorem Rel.full (h : Rel cubs r) (ho : WallOk cubs) (n : Int) : fullR r n = fullM cubs n := by
  unfold fullR
  rw [h.order, (full_needs cubs n).1]
  cases hh : (orderM cubs n).2 with
  | false => rfl
  | true =>
    simp only [Bool.true_and]
    unfold orderM at hh
    cases hn : heldAt cubs n with
    | none => rw [hn] at hh; cases hh
    | some c =>
      obtain ⟨k, hk, rfl, rfl, _⟩ := heldAt_some hn
      have e : needsM cubs k = cubs[k].needs := by unfold needsM; rw [hn]
      rw [e, Bool.eq_iff_iff, List.all_eq_true, decide_eq_true_iff]
      constructor
      · intro h1
        apply Classical.byContradiction
        intro h2
        obtain ⟨l, hl⟩ := List.exists_mem_of_length_pos (Nat.pos_of_ne_zero h2)
        have := h1 _ ((h.mem_ds ⟨k, l⟩).2 ⟨k, hk, rfl, hl⟩)
        simp at this
      · intro h1 d hd
        obtain ⟨j, hj, h2, h3⟩ := (h.mem_ds d).1 hd
        simp only [bne_iff_ne, ne_eq]
        intro h4
        have : j = k := by omega
        subst this
        rw [List.eq_nil_of_length_eq_zero h1] at h3
        cases h3

theorem held_of {n : Int} {k : Nat} (hk : k < cubs.length) (hn : heldAt cubs n = some cubs[k]) (e : n = k) : (orderM cubs n).2 = true := by unfold orderM; rw [hn]
theorem Rel.put (h : Rel cubs r) (ho : WallOk cubs) (n item qty : Int) : (putR r n item qty).1 = (putM cubs n item qty).1 ∧ Rel (putM cubs n item qty).2 (putR r n item qty).2 := by
  unfold putR putM
  rw [h.order]
  unfold orderM
  cases hn : heldAt cubs n with
  | none => exact ⟨rfl, h⟩
  | some c =>
    obtain ⟨k, hk, rfl, rfl, hh⟩ := heldAt_some hn
    have hok := ho.2.2 _ (List.getElem_mem hk)
    simp only [Bool.true_eq_false, if_false, Int.toNat_natCast]
    have hself : cubs.set k cubs[k] = cubs := by simp
    have nofind : foundAt cubs[k].needs item = false → r.ds.findIdx? (isNd k item) = none := by
      intro hf
      rw [List.findIdx?_eq_none_iff]
      intro d hd
      obtain ⟨j, hj, h1, h2⟩ := (h.mem_ds d).1 hd
      rw [Bool.eq_false_iff]
      intro h3
      unfold isNd at h3
      simp only [Bool.and_eq_true, beq_iff_eq] at h3
      have : j = k := by omega
      subst this
      obtain ⟨i, hi, h4⟩ := List.getElem_of_mem h2
      have h5 := found_at hok.rising hi
      rw [h4, h3.2, hf] at h5
      cases h5
    cases hf : foundAt cubs[k].needs item with
    | false =>
      rw [nofind hf]
      have e : Cub.put cubs[k] item qty = (11, cubs[k]) := by unfold Cub.put; rw [hf]; rfl
      rw [e]
      simp only [hself]
      exact ⟨trivial, h⟩
    | true =>
      obtain ⟨hj, hit⟩ := found_get hf
      have hx : (⟨k, cubs[k].needs[lower cubs[k].needs item]⟩ : Nd) ∈ r.ds := (h.mem_ds _).2 ⟨k, hk, rfl, List.getElem_mem hj⟩
      cases hfi : r.ds.findIdx? (isNd k item) with
      | none =>
        rw [List.findIdx?_eq_none_iff] at hfi
        have := hfi _ hx
        simp [isNd, hit] at this
      | some i =>
        obtain ⟨hi, h1, _⟩ := List.findIdx?_eq_some_iff_getElem.1 hfi
        have hxi : r.ds[i] = ⟨k, cubs[k].needs[lower cubs[k].needs item]⟩ := by
          obtain ⟨j, hj2, h2, h3⟩ := (h.mem_ds _).1 (List.getElem_mem hi)
          unfold isNd at h1
          simp only [Bool.and_eq_true, beq_iff_eq] at h1
          have e : j = k := by omega
          subst e
          obtain ⟨q, hq, h4⟩ := List.getElem_of_mem h3
          have h5 : lower cubs[j].needs item = q := by rw [← h1.2, ← h4]; exact lower_at hok.rising hq
          have h6 : cubs[j].needs[lower cubs[j].needs item] = cubs[j].needs[q] := by simp only [h5]
          rw [h6, h4, ← h2]
        simp only
        rw [List.getElem?_eq_getElem hi, hxi]
        simp only
        have hput : Cub.put cubs[k] item qty = if qty < 1 then (10, cubs[k]) else if cubs[k].needs[lower cubs[k].needs item].qty < qty then (10, cubs[k]) else
            if cubs[k].needs[lower cubs[k].needs item].qty = qty then (0, { cubs[k] with needs := cubs[k].needs.eraseIdx (lower cubs[k].needs item) })
            else (0, { cubs[k] with needs := cubs[k].needs.set (lower cubs[k].needs item) { cubs[k].needs[lower cubs[k].needs item] with qty := cubs[k].needs[lower cubs[k].needs item].qty - qty } }) := by
          unfold Cub.put
          rw [if_pos hf, List.getElem?_eq_getElem hj]
        rw [hput]
        generalize hJ : lower cubs[k].needs item = j at *
        have hP := h.ds.trans (rowFrom_split ndAt ndAt_bare 0 cubs k hk)
        rw [Nat.zero_add] at hP
        have hP1 : r.ds.Perm (r.ds[i] :: r.ds.eraseIdx i) := (erase_perm hi).symm
        have hP2 : cubs[k].needs.Perm (cubs[k].needs[j] :: cubs[k].needs.eraseIdx j) := (erase_perm hj).symm
        have hP3 : (r.ds.eraseIdx i).Perm ((cubs[k].needs.eraseIdx j).map (⟨(k : Int), ·⟩) ++ rowFrom ndAt 0 (cubs.set k Cub.bare)) := by
          have h7 := hP1.symm.trans (hP.trans (((hP2.map (fun l => (⟨(k : Int), l⟩ : Nd)))).append_right _))
          rw [hxi, List.map_cons, List.cons_append] at h7
          exact h7.cons_inv
        by_cases c1 : qty < 1
        · rw [if_pos (.inl c1), if_pos c1]
          simp only [hself]
          exact ⟨trivial, h⟩
        · by_cases c2 : cubs[k].needs[j].qty < qty
          · rw [if_pos (.inr c2), if_neg c1, if_pos c2]
            simp only [hself]
            exact ⟨trivial, h⟩
          · rw [if_neg (by omega), if_neg c1, if_neg c2]
            have hpl : ∀ ns, rowFrom plAt 0 (cubs.set k { cubs[k] with needs := ns }) = rowFrom plAt 0 cubs := fun ns => rowFrom_same plAt 0 cubs k hk _ rfl
            by_cases c3 : cubs[k].needs[j].qty = qty
            · rw [if_pos c3, if_neg (by omega)]
              refine ⟨rfl, ?_, ?_, ?_⟩
              · rw [hpl]; exact h.ps
              · refine List.Perm.trans ?_ (rowFrom_set ndAt ndAt_bare 0 cubs k hk _).symm
                rw [Nat.zero_add, List.append_nil]
                exact hP3
              · intro c hc l hl
                rcases List.mem_or_eq_of_mem_set hc with h8 | rfl
                · exact h.small c h8 l hl
                · exact h.small _ (List.getElem_mem hk) l (List.mem_of_mem_eraseIdx hl)
            · rw [if_neg c3, if_pos (by omega)]
              refine ⟨rfl, ?_, ?_, ?_⟩
              · rw [hpl]; exact h.ps
              · refine List.Perm.trans ?_ (rowFrom_set ndAt ndAt_bare 0 cubs k hk _).symm
                rw [Nat.zero_add]
                refine (List.perm_append_singleton _ _).trans ?_
                refine (hP3.cons _).trans ?_
                rw [← List.cons_append]
                refine List.Perm.append_right _ ?_
                unfold ndAt
                simp only
                have h9 := (set_perm hj { cubs[k].needs[j] with qty := cubs[k].needs[j].qty - qty }).map (fun l => (⟨(k : Int), l⟩ : Nd))
                rw [List.map_cons] at h9
                exact h9.symm
              · intro c hc l hl
                rcases List.mem_or_eq_of_mem_set hc with h8 | rfl
                · exact h.small c h8 l hl
                · rcases List.mem_or_eq_of_mem_set hl with h8 | rfl
                  · exact h.small _ (List.getElem_mem hk) l h8
                  · have h9 := h.small _ (List.getElem_mem hk) _ (List.getElem_mem hj)
                    exact h9
theorem Rel.less (h : Rel cubs r) (ho : WallOk cubs) (hs : Sole cubs) (order item qty : Int) : (lessR r order item qty).1 = (lessM cubs order item qty).1 ∧ Rel (lessM cubs order item qty).2 (lessR r order item qty).2 := by
  unfold lessR lessM
  rw [h.cubby hs]
  by_cases c : 0 ≤ firstIdx (isOf order) cubs
  · rw [if_neg (by omega), if_pos c]
    exact h.put ho _ _ _
  · rw [if_pos (by omega), if_neg c]
    exact ⟨rfl, h⟩
theorem Rel.release (h : Rel cubs r) (ho : WallOk cubs) (n : Int) : (releaseR r n).1 = (releaseM cubs n).1 ∧ Rel (releaseM cubs n).2 (releaseR r n).2 := by
  unfold releaseR releaseM
  rw [h.full ho, h.order]
  cases hf : fullM cubs n with
  | false => exact ⟨rfl, h⟩
  | true =>
    simp only [if_true]
    refine ⟨by first | trivial | rfl, ?_⟩
    unfold fullM at hf
    cases hn : heldAt cubs n with
    | none => rw [hn] at hf; cases hf
    | some c =>
      obtain ⟨k, hk, rfl, rfl, hh⟩ := heldAt_some hn
      rw [hn] at hf
      have hz : cubs[k].needs = [] := by simpa using hf
      rw [Int.toNat_natCast]
      refine ⟨?_, ?_, ?_⟩
      · have hP := (h.ps.trans (rowFrom_split plAt plAt_bare 0 cubs k hk)).filter (fun p => p.cubby != (k : Int))
        refine hP.trans (List.Perm.of_eq ?_)
        rw [List.filter_append, Nat.zero_add]
        have e1 : (plAt k cubs[k]).filter (fun p => p.cubby != (k : Int)) = [] := by
          unfold plAt
          rw [if_pos hh, List.filter_cons_of_neg (by simp)]
          rfl
        rw [e1, List.nil_append, List.filter_eq_self]
        intro p hp
        have := rest_not_pl k cubs p hp
        simpa using this
      · rw [rowFrom_same ndAt 0 cubs k hk _ (by unfold ndAt; rw [hz]; rfl)]
        exact h.ds
      · intro c hc l hl
        rcases List.mem_or_eq_of_mem_set hc with h8 | rfl
        · exact h.small c h8 l hl
        · cases hl
theorem range_free (h : Rel cubs r) : (List.range cubs.length).find? (fun c : Nat => !(orderR r c).2) = if firstFree cubs < 0 then none else some (firstFree cubs).toNat := by
  have hp : ∀ c : Nat, ∀ hc : c < cubs.length, (!(orderR r c).2) = !cubs[c].held := by
    intro c hc
    rw [h.order, orderM_in hc]
    cases cubs[c].held <;> rfl
  by_cases c : firstFree cubs < 0
  · rw [if_pos c, List.find?_eq_none]
    intro k hk
    rw [List.mem_range] at hk
    rw [hp k hk, full_all c k hk]
    simp
  · rw [if_neg c]
    obtain ⟨k, hk, h1, h2, h3⟩ := firstIdx_nonneg (f := fun c : Cub => !c.held) (l := cubs) (by unfold firstFree at c; omega)
    have e : firstFree cubs = k := h1
    rw [e, Int.toNat_natCast, List.find?_range_eq_some]
    refine ⟨by rw [hp k hk]; exact h2, by simpa using hk, fun j hj => ?_⟩
    rw [hp j (by omega), h3 j (by omega) hj]
    rfl
theorem Rel.assign (h : Rel cubs r) (ho : WallOk cubs) (hs : Sole cubs) (order : Int) (ls : List Ln) (hl : ∀ l ∈ ls, l.item < 32) : (assignR cubs.length r order ls).1 = (assignM cubs order ls).1 ∧ Rel (assignM cubs order ls).2 (assignR cubs.length r order ls).2 := by
  unfold assignR assignM
  rw [h.cubby hs, range_free h]
  split
  · exact ⟨rfl, h⟩
  · split
    · exact ⟨rfl, h⟩
    · by_cases c : firstFree cubs < 0
      · rw [if_pos c, if_pos c]
        exact ⟨rfl, h⟩
      · rw [if_neg c, if_neg c]
        obtain ⟨k, hk, h1, h2, h3⟩ := firstIdx_nonneg (f := fun c : Cub => !c.held) (l := cubs) (by unfold firstFree at c; omega)
        have e : firstFree cubs = k := h1
        rw [e, Int.toNat_natCast]
        have hb : cubs[k] = Cub.bare := (ho.2.2 _ (List.getElem_mem hk)).empty (by simpa using h2)
        have hset : cubs.set k Cub.bare = cubs := by rw [← hb]; simp
        refine ⟨rfl, ?_, ?_, ?_⟩
        · refine List.Perm.trans ?_ (rowFrom_set plAt plAt_bare 0 cubs k hk _).symm
          rw [hset, Nat.zero_add]
          exact (List.perm_append_comm).trans (h.ps.append_left _)
        · refine List.Perm.trans ?_ (rowFrom_set ndAt ndAt_bare 0 cubs k hk _).symm
          rw [hset, Nat.zero_add]
          refine (List.perm_append_comm).trans ((h.ds.append_left _).trans (List.Perm.append_right _ ?_))
          exact ((sortLn_perm ls).symm.map _)
        · intro c hc l hl2
          rcases List.mem_or_eq_of_mem_set hc with h8 | rfl
          · exact h.small c h8 l hl2
          · exact hl l ((sortLn_perm ls).mem_iff.1 hl2)
theorem Rel.new (a : Int) : Rel (newM a) ⟨[], []⟩ := by
  have e : ∀ {α : Type} (f : Nat → Cub → List α) (h0 : ∀ b, f b Cub.bare = []) (b m : Nat), rowFrom f b (List.replicate m Cub.bare) = [] := by
    intro α f h0 b m
    induction m generalizing b with
    | zero => rfl
    | succ m ih => rw [List.replicate_succ, rowFrom, h0, ih]; rfl
  unfold newM
  refine ⟨?_, ?_, ?_⟩
  · rw [e plAt plAt_bare]
  · rw [e ndAt ndAt_bare]
  · intro c hc l hl
    rw [List.eq_of_mem_replicate hc] at hl
    cases hl
/-- What is said of a scan. -/
def ScanSaid (r : Ref) (item c q e : Int) : Prop := (c = 0 ∧ q = 0 ∧ e = 11 ∧ ∀ d ∈ r.ds, d.line.item ≠ item) ∨ (e = 0 ∧ ∃ d ∈ r.ds, d.line.item = item ∧ c = d.cubby ∧ q = d.line.qty ∧ ∀ d' ∈ r.ds, d'.line.item = item → d.cubby ≤ d'.cubby)
theorem Rel.scan (h : Rel cubs r) (ho : WallOk cubs) {item c q e : Int} (hs : ScanSaid r item c q e) : scanM cubs item = (c, q, e) := by
  unfold scanM
  rcases hs with ⟨rfl, rfl, rfl, hn⟩ | ⟨rfl, d, hd, hi, rfl, rfl, hm⟩
  · rw [findIdx_none]
    intro j hj
    unfold hasItem
    rw [Bool.eq_false_iff]
    intro hf
    obtain ⟨hi, hit⟩ := found_get hf
    exact hn _ ((h.mem_ds ⟨j, cubs[j].needs[lower cubs[j].needs item]⟩).2 ⟨j, hj, rfl, List.getElem_mem hi⟩) hit
  · obtain ⟨k, hk, h1, h2⟩ := (h.mem_ds d).1 hd
    have hok := ho.2.2 _ (List.getElem_mem hk)
    obtain ⟨i, hi2, h3⟩ := List.getElem_of_mem h2
    have hlow : lower cubs[k].needs item = i := by rw [← hi, ← h3]; exact lower_at hok.rising hi2
    rw [findIdx_at (k := k) hk]
    · simp only
      rw [List.getElem?_eq_getElem hk]
      simp only
      rw [hlow, List.getElem?_eq_getElem hi2]
      simp only [h3, h1]
    · intro j hj hjk
      unfold hasItem
      rw [Bool.eq_false_iff]
      intro hf
      obtain ⟨hi4, hit⟩ := found_get hf
      have := hm _ ((h.mem_ds ⟨j, cubs[j].needs[lower cubs[j].needs item]⟩).2 ⟨j, hj, rfl, List.getElem_mem hi4⟩) hit
      simp only at this
      omega
    · unfold hasItem
      have := found_at hok.rising hi2
      rw [h3, hi] at this
      exact this
end
end Go.Proofs.Ytlejhnigbmgbpaa
