import Derived.Test.YtlejhnigbmgbpaaS0
namespace Go.Lamp
open Go.RowKit

/-! Lists of records as cells. -/
def flat {α : Type} (f : α → List Value) (l : List α) : List Value := l.flatMap f
section
variable {α : Type} {f : α → List Value} {s : Nat}
theorem flat_nil : flat f [] = [] := rfl
theorem flat_cons (a : α) (l : List α) : flat f (a :: l) = f a ++ flat f l := rfl
theorem flat_append (l m : List α) : flat f (l ++ m) = flat f l ++ flat f m := by simp [flat]
theorem flat_length (hf : ∀ a, (f a).length = s) (l : List α) : (flat f l).length = l.length * s := by
  induction l with
  | nil => simp [flat]
  | cons a l ih => simp [flat_cons, ih, hf, Nat.succ_mul]; omega
theorem flat_get (hf : ∀ a, (f a).length = s) (l : List α) (k j : Nat) (hk : k < l.length) (hj : j < s) : (flat f l)[k * s + j]? = (f l[k])[j]? := by
  induction l generalizing k with
  | nil => simp at hk
  | cons a l ih =>
    cases k with
    | zero => rw [flat_cons, List.getElem?_append_left (by rw [hf]; omega)]; simp
    | succ k =>
      rw [flat_cons, List.getElem?_append_right (by rw [hf, Nat.succ_mul]; omega)]
      rw [show (k + 1) * s + j - (f a).length = k * s + j by rw [hf, Nat.succ_mul]; omega]
      simpa using ih k (by simpa using hk)
theorem flat_take (hf : ∀ a, (f a).length = s) (l : List α) (k : Nat) : (flat f l).take (k * s) = flat f (l.take k) := by
  induction l generalizing k with
  | nil => simp [flat]
  | cons a l ih =>
    cases k with
    | zero => simp [flat]
    | succ k =>
      rw [flat_cons, List.take_append, List.take_of_length_le (by rw [hf, Nat.succ_mul]; omega)]
      rw [show (k + 1) * s - (f a).length = k * s by rw [hf, Nat.succ_mul]; omega, ih]
      simp [flat_cons]
theorem flat_drop (hf : ∀ a, (f a).length = s) (l : List α) (k : Nat) : (flat f l).drop (k * s) = flat f (l.drop k) := by
  induction l generalizing k with
  | nil => simp [flat]
  | cons a l ih =>
    cases k with
    | zero => simp [flat]
    | succ k =>
      rw [flat_cons, List.drop_append, List.drop_eq_nil_of_le (by rw [hf, Nat.succ_mul]; omega)]
      rw [show (k + 1) * s - (f a).length = k * s by rw [hf, Nat.succ_mul]; omega, ih]
      simp
theorem flat_set (hf : ∀ a, (f a).length = s) (l : List α) (k j : Nat) (hk : k < l.length) (hj : j < s) (v : Value) (a' : α) (ha : f a' = (f l[k]).set j v) :
    (flat f l).set (k * s + j) v = flat f (l.set k a') := by
  induction l generalizing k with
  | nil => simp at hk
  | cons a l ih =>
    cases k with
    | zero =>
      simp only [flat_cons, List.set_cons_zero, Nat.zero_mul, Nat.zero_add]
      rw [List.set_append_left _ _ (by rw [hf]; exact hj)]
      simp at ha; rw [ha]
    | succ k =>
      simp only [flat_cons, List.set_cons_succ]
      rw [List.set_append_right _ _ (by rw [hf, Nat.succ_mul]; omega)]
      rw [show (k + 1) * s + j - (f a).length = k * s + j by rw [hf, Nat.succ_mul]; omega]
      rw [ih k (by simpa using hk) (by simpa using ha)]
end

/-! A slice of one's own: 'ownsRow' as an assertion. -/
def Row (e size : Nat) (v : Value) (n : Nat) (xs : List Value) : HProp := fun h =>
  xs.length = n * size ∧ ((v = .slice none 0 0 ∧ n = 0 ∧ h = Part.none) ∨
    ∃ g cap cur, v = .slice (some ⟨g, 0, none⟩) n cap ∧ blk g (.cells cur e (0, 0)) h ∧ n ≤ cap ∧ cap ≤ maxLen ∧ cur.size = cap * size ∧ cur.toList.take (n * size) = xs)
section
variable {W w : World} {R : HProp} {e size n : Nat} {v : Value} {xs : List Value}
theorem Sat.row_cases (h : Sat W w (Row e size v n xs * R)) : (v = .slice none 0 0 ∧ n = 0 ∧ xs = [] ∧ Sat W w R) ∨
    ∃ g cap cur, v = .slice (some ⟨g, 0, none⟩) n cap ∧ n ≤ cap ∧ cap ≤ maxLen ∧ cur.size = cap * size ∧ cur.toList.take (n * size) = xs ∧ Sat W w (blk g (.cells cur e (0, 0)) * R) := by
  obtain ⟨h1, h2, h3, x, ⟨x1, x2, ⟨hl, hr⟩, h5, hd, rfl⟩, hx⟩ := h
  rcases hr with ⟨rfl, rfl, rfl⟩ | ⟨g, cap, cur, rfl, hb, q1, q2, q3, q4⟩
  · left
    rw [Part.none_join] at hx
    exact ⟨rfl, rfl, List.eq_nil_of_length_eq_zero (by simpa using hl), h1, h2, h3, x2, h5, hx⟩
  · right
    exact ⟨g, cap, cur, rfl, q1, q2, q3, q4, h1, h2, h3, _, ⟨x1, x2, hb, h5, hd, rfl⟩, hx⟩
theorem Sat.row_nil (h : Sat W w R) (e size : Nat) : Sat W w (Row e size (.slice none 0 0) 0 [] * R) := by
  obtain ⟨h1, h2, h3, x, hr, hx⟩ := h
  exact ⟨h1, h2, h3, x, ⟨Part.none, x, ⟨by simp, .inl ⟨rfl, rfl, rfl⟩⟩, hr, Part.none_disj x, (Part.none_join x).symm⟩, hx⟩
theorem Sat.row_mk {g cap : Nat} {cur : Array Value} (h : Sat W w (blk g (.cells cur e (0, 0)) * R)) (h1 : n ≤ cap) (h2 : cap ≤ maxLen) (h3 : cur.size = cap * size) :
    Sat W w (Row e size (.slice (some ⟨g, 0, none⟩) n cap) n (cur.toList.take (n * size)) * R) := by
  refine h.to ?_
  rintro x ⟨x1, x2, hb, hr, hd, rfl⟩
  refine ⟨x1, x2, ⟨?_, .inr ⟨g, cap, cur, rfl, hb, h1, h2, h3, rfl⟩⟩, hr, hd, rfl⟩
  simp only [List.length_take, Array.length_toList, h3]
  have := Nat.mul_le_mul_right size h1
  omega
theorem Sat.row_owns (h : Sat W w (Row e size v n xs * R)) : w.ownsRow 0 e size v n xs := by
  have hl : xs.length = n * size := by obtain ⟨_, _, _, x, ⟨x1, x2, ⟨hl, _⟩, _⟩, _⟩ := h; exact hl
  rcases h.row_cases with ⟨rfl, rfl, rfl, _⟩ | ⟨g, cap, cur, rfl, h1, h2, h3, h4, hs⟩
  · exact World.ownsRow_nil _ _ _ _
  · exact ⟨hl, .inr ⟨g, cap, cur, rfl, Nat.zero_le _, hs.block, h1, h2, h3, h4⟩⟩
theorem Sat.row_len (h : Sat W w (Row e size v n xs * R)) : xs.length = n * size := h.row_owns.1
/-- A cell of the row. -/
theorem Sat.row_cell (h : Sat W w (Row e size v n xs * R)) : ∃ b cap, (v = .slice (some ⟨b, 0, none⟩) n cap ∨ n = 0 ∧ v = .slice none 0 0 ∧ cap = 0) ∧ n ≤ cap ∧ cap ≤ maxLen ∧ ∀ j, j < n * size → w.cell? ⟨b, j, none⟩ = xs[j]? := by
  rcases h.row_cases with ⟨rfl, rfl, rfl, _⟩ | ⟨g, cap, cur, rfl, h1, h2, h3, h4, hs⟩
  · exact ⟨0, 0, .inr ⟨rfl, rfl, rfl⟩, Nat.le_refl _, Nat.zero_le _, fun j hj => by simp at hj⟩
  · refine ⟨g, cap, .inl rfl, h1, h2, fun j hj => ?_⟩
    rw [hs.cell, ← h4, List.getElem?_take, if_pos hj]
    simp
/-- Behind a law on append. -/
theorem Sat.row_grown {w' : World} {v' : Value} {n' : Nat} {xs' : List Value} (h : Sat W w (Row e size v n xs * R)) (ho : w'.ownsRow 0 e size v' n' xs') (hg : w.grownBy w' v.ownBlock)
    (hv : v'.ownBlock = v.ownBlock ∨ ∀ k, v'.ownBlock = some k → w.heap.size ≤ k) : Sat W w' (Row e size v' n' xs' * R) := by
  have hk : ∀ g, v.ownBlock = some g → v'.ownBlock ≠ some g → Sat W w' R := fun g hg' hn => ?_
  · have hl := ho.1
    rcases ho.2 with ⟨rfl, rfl⟩ | ⟨g, cap, cur, rfl, _, hgg, h1, h2, h3, h4⟩
    · have hx : xs' = [] := List.eq_nil_of_length_eq_zero (by simpa using hl)
      subst hx
      refine Sat.row_nil ?_ e size
      rcases h.row_cases with ⟨rfl, rfl, rfl, hs⟩ | ⟨g, cap, cur, rfl, _, _, _, _, hs⟩
      · exact hs.keep hg.os hg.tape hg.output fun k hk => hg.block k hk (by simp [Value.ownBlock])
      · exact hk g rfl (by simp [Value.ownBlock])
    · rcases h.row_cases with ⟨rfl, rfl, rfl, hs⟩ | ⟨g0, cap0, cur0, rfl, _, _, _, _, hs⟩
      · have hb : w.heap.size ≤ g := by
          rcases hv with hv | hv
          · simp [Value.ownBlock] at hv
          · exact hv g rfl
        have hs' := hs.fresh hg.os hg.tape hg.output (fun k hk => hg.block k hk (by simp [Value.ownBlock])) hb hgg
        rw [← h4]
        exact hs'.row_mk h1 h2 h3
      · by_cases e : g = g0
        · subst e
          have hs' := hs.upd hg.os hg.tape hg.output hgg (fun k hk hn => hg.block k hk (by simpa [Value.ownBlock] using hn))
          rw [← h4]
          exact hs'.row_mk h1 h2 h3
        · have hb : w.heap.size ≤ g := by
            rcases hv with hv | hv
            · simp [Value.ownBlock] at hv; exact absurd hv e
            · exact hv g rfl
          obtain ⟨p1, p2, p3, x, ⟨x1, x2, hx1, hr, hd, rfl⟩, hx⟩ := hs
          have hs2 : Sat W w R := ⟨p1, p2, p3, x2, hr, fun k o ho => hx k o (by
            rcases hd k with hd | hd
            · simp [Part.join, hd, ho]
            · simp [hd] at ho)⟩
          have hg0 : ∀ k o, x2 k = some o → k ≠ g0 := fun k o ho hkg => by
            subst hkg
            rw [hx1] at hd
            rcases hd k with hd | hd
            · simp at hd
            · simp [hd] at ho
          have hs3 : Sat W w' R := ⟨hg.os.trans p1, hg.tape.trans p2, hg.output.trans p3, x2, hr, fun k o ho => by
            have hq := hs2
            have hwk : w.heap[k]? = some o := hx k o (by
              rcases hd k with hd | hd
              · simp [Part.join, hd, ho]
              · simp [hd] at ho)
            rw [hg.block k (Array.getElem?_eq_some_iff.1 hwk).1 (by simpa [Value.ownBlock] using hg0 k o ho), hwk]⟩
          rw [← h4]
          refine Sat.row_mk ?_ h1 h2 h3
          refine ⟨hs3.os, hs3.tape, hs3.output, _, ⟨_, x2, rfl, hr, fun k => ?_, rfl⟩, fun k p hp => ?_⟩
          · by_cases e : k = g
            · right
              cases hxk : x2 k with
              | none => rfl
              | some p =>
                have hwk : w.heap[k]? = some p := hx k p (by
                  rcases hd k with hd | hd
                  · simp [Part.join, hd, hxk]
                  · simp [hd] at hxk)
                have := (Array.getElem?_eq_some_iff.1 hwk).1
                omega
            · left; simp [e]
          · by_cases e : k = g
            · subst e
              simp [Part.join] at hp
              rw [hgg, hp]
            · simp [Part.join, e] at hp
              have hwk : w.heap[k]? = some p := hx k p (by
                rcases hd k with hd | hd
                · simp [Part.join, hd, hp]
                · simp [hd] at hp)
              rw [hg.block k (Array.getElem?_eq_some_iff.1 hwk).1 (by simpa [Value.ownBlock] using hg0 k p hp), hwk]
  · rcases h.row_cases with ⟨rfl, rfl, rfl, hs⟩ | ⟨g0, cap0, cur0, rfl, _, _, _, _, hs⟩
    · simp [Value.ownBlock] at hg'
    · obtain ⟨p1, p2, p3, x, ⟨x1, x2, hx1, hr, hd, rfl⟩, hx⟩ := hs
      refine ⟨hg.os.trans p1, hg.tape.trans p2, hg.output.trans p3, x2, hr, fun k o ho => ?_⟩
      have hwk : w.heap[k]? = some o := hx k o (by
        rcases hd k with hd | hd
        · simp [Part.join, hd, ho]
        · simp [hd] at ho)
      rw [hg.block k (Array.getElem?_eq_some_iff.1 hwk).1 ?_, hwk]
      simp only [Value.ownBlock, ne_eq, Option.some.injEq]
      rintro rfl
      rw [hx1] at hd
      rcases hd k with hd | hd
      · simp at hd
      · simp [hd] at ho
end
end Go.Lamp
