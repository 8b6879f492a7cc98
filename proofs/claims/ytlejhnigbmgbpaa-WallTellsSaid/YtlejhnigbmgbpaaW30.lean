import Derived.Test.YtlejhnigbmgbpaaW26
namespace Go.Proofs.Ytlejhnigbmgbpaa
open Go.RowKit Go.Lamp

/-! The document's answer as plain lists, and how it stands to the wall. -/
structure Pl where
  cubby : Int
  order : Int
  deriving DecidableEq
structure Nd where
  cubby : Int
  line : Ln
  deriving DecidableEq
structure Ref where
  ps : List Pl
  ds : List Nd
def Pl.cells (p : Pl) : List Value := [.int .i64 p.cubby, .int .u32 p.order]
def Nd.cells (d : Nd) : List Value := [.int .i64 d.cubby, .int .u16 d.line.item, .int .u16 d.line.loc, .int .i64 d.line.qty]
theorem Pl.cells_length (p : Pl) : p.cells.length = 2 := rfl
theorem Nd.cells_length (d : Nd) : d.cells.length = 4 := rfl

section
variable {α : Type} (f : Nat → Cub → List α)
def rowFrom : Nat → List Cub → List α
  | _, [] => []
  | b, c :: cs => f b c ++ rowFrom (b + 1) cs
theorem rowFrom_split (h0 : ∀ b, f b Cub.bare = []) (b : Nat) (cs : List Cub) (k : Nat) (hk : k < cs.length) : (rowFrom f b cs).Perm (f (b + k) cs[k] ++ rowFrom f b (cs.set k Cub.bare)) := by
  induction cs generalizing b k with
  | nil => simp at hk
  | cons c cs ih =>
    cases k with
    | zero => simp [rowFrom, h0]
    | succ k =>
      simp only [rowFrom, List.set_cons_succ, List.getElem_cons_succ]
      have h := ih (b + 1) k (by simpa using hk)
      rw [show b + 1 + k = b + (k + 1) by omega] at h
      exact (h.append_left _).trans (List.perm_append_comm_assoc ..)
theorem rowFrom_set (h0 : ∀ b, f b Cub.bare = []) (b : Nat) (cs : List Cub) (k : Nat) (hk : k < cs.length) (c : Cub) : (rowFrom f b (cs.set k c)).Perm (f (b + k) c ++ rowFrom f b (cs.set k Cub.bare)) := by
  have h := rowFrom_split f h0 b (cs.set k c) k (by simpa using hk)
  rw [List.getElem_set_self, List.set_set] at h
  exact h
theorem rowFrom_same (b : Nat) (cs : List Cub) (k : Nat) (hk : k < cs.length) (c : Cub) (hc : f (b + k) c = f (b + k) cs[k]) : rowFrom f b (cs.set k c) = rowFrom f b cs := by
  induction cs generalizing b k with
  | nil => simp at hk
  | cons a cs ih =>
    cases k with
    | zero => simp only [List.set_cons_zero, rowFrom]; simp at hc; rw [hc]
    | succ k =>
      simp only [rowFrom, List.set_cons_succ]
      rw [ih (b + 1) k (by simpa using hk) (by rw [show b + 1 + k = b + (k + 1) by omega]; simpa using hc)]
theorem mem_rowFrom (b : Nat) (cs : List Cub) (a : α) : a ∈ rowFrom f b cs ↔ ∃ k, ∃ hk : k < cs.length, a ∈ f (b + k) cs[k] := by
  induction cs generalizing b with
  | nil => simp [rowFrom]
  | cons c cs ih =>
    simp only [rowFrom, List.mem_append, ih]
    constructor
    · rintro (h | ⟨k, hk, h⟩)
      · exact ⟨0, by simp, by simpa using h⟩
      · exact ⟨k + 1, by simpa using hk, by rw [show b + (k + 1) = b + 1 + k by omega]; simpa using h⟩
    · rintro ⟨k, hk, h⟩
      cases k with
      | zero => exact .inl (by simpa using h)
      | succ k => exact .inr ⟨k, by simpa using hk, by rw [show b + 1 + k = b + (k + 1) by omega]; simpa using h⟩
end

def plAt (k : Nat) (c : Cub) : List Pl := if c.held then [⟨k, c.order⟩] else []
def ndAt (k : Nat) (c : Cub) : List Nd := c.needs.map (⟨k, ·⟩)
theorem plAt_bare (k : Nat) : plAt k Cub.bare = [] := rfl
theorem ndAt_bare (k : Nat) : ndAt k Cub.bare = [] := rfl
structure Rel (cubs : List Cub) (r : Ref) : Prop where
  ps : r.ps.Perm (rowFrom plAt 0 cubs)
  ds : r.ds.Perm (rowFrom ndAt 0 cubs)
  small : ∀ c ∈ cubs, ∀ l ∈ c.needs, l.item < 32

section
variable {cubs : List Cub} {r : Ref}
theorem Rel.mem_ps (h : Rel cubs r) (p : Pl) : p ∈ r.ps ↔ ∃ k : Nat, ∃ hk : k < cubs.length, cubs[k].held = true ∧ p = ⟨k, cubs[k].order⟩ := by
  rw [h.ps.mem_iff, mem_rowFrom]
  constructor
  · rintro ⟨k, hk, hp⟩
    rw [Nat.zero_add] at hp
    unfold plAt at hp
    split at hp
    · rename_i hh
      exact ⟨k, hk, hh, by simpa using hp⟩
    · simp at hp
  · rintro ⟨k, hk, hh, rfl⟩
    exact ⟨k, hk, by rw [Nat.zero_add]; unfold plAt; rw [if_pos hh]; simp⟩
theorem Rel.mem_ds (h : Rel cubs r) (d : Nd) : d ∈ r.ds ↔ ∃ k : Nat, ∃ hk : k < cubs.length, d.cubby = k ∧ d.line ∈ cubs[k].needs := by
  rw [h.ds.mem_iff, mem_rowFrom]
  constructor
  · rintro ⟨k, hk, hp⟩
    rw [Nat.zero_add] at hp
    unfold ndAt at hp
    rw [List.mem_map] at hp
    obtain ⟨l, hl, rfl⟩ := hp
    exact ⟨k, hk, rfl, hl⟩
  · rintro ⟨k, hk, h1, h2⟩
    refine ⟨k, hk, ?_⟩
    rw [Nat.zero_add]
    unfold ndAt
    rw [List.mem_map]
    exact ⟨d.line, h2, by cases d; simp at h1; rw [h1]⟩

def cubbyR (r : Ref) (order : Int) : Int := match r.ps.find? (fun p => p.order == order) with
  | some p => p.cubby
  | none => -1
def orderR (r : Ref) (cubby : Int) : Int × Bool := match r.ps.find? (fun p => p.cubby == cubby) with
  | some p => (p.order, true)
  | none => (0, false)
theorem Rel.cubby (h : Rel cubs r) (hs : Sole cubs) (order : Int) : cubbyR r order = firstIdx (isOf order) cubs := by
  unfold cubbyR
  cases hf : r.ps.find? (fun p => p.order == order) with
  | some p =>
    have h1 := List.mem_of_find?_eq_some hf
    have h2 := List.find?_some hf
    obtain ⟨k, hk, hh, rfl⟩ := (h.mem_ps p).1 h1
    simp at h2
    subst h2
    simp only
    rw [sole_first hs hk hh]
  | none =>
    rw [List.find?_eq_none] at hf
    rw [firstIdx_none]
    intro j hj
    unfold isOf
    cases hh : cubs[j].held with
    | false => rfl
    | true =>
      have := hf _ ((h.mem_ps ⟨j, cubs[j].order⟩).2 ⟨j, hj, hh, rfl⟩)
      simpa using this
theorem Rel.order (h : Rel cubs r) (n : Int) : orderR r n = orderM cubs n := by
  unfold orderR
  cases hf : r.ps.find? (fun p => p.cubby == n) with
  | some p =>
    have h1 := List.mem_of_find?_eq_some hf
    have h2 := List.find?_some hf
    obtain ⟨k, hk, hh, rfl⟩ := (h.mem_ps p).1 h1
    simp at h2
    subst h2
    rw [orderM_in hk, if_pos hh]
  | none =>
    rw [List.find?_eq_none] at hf
    show ((0 : Int), false) = orderM cubs n
    unfold orderM
    cases hc : heldAt cubs n with
    | some c =>
      obtain ⟨k, hk, rfl, rfl, hh⟩ := heldAt_some hc
      have := hf _ ((h.mem_ps ⟨k, cubs[k].order⟩).2 ⟨k, hk, hh, rfl⟩)
      simp at this
    | none => rfl
theorem Rel.free (h : Rel cubs r) : freeM cubs = cubs.length - r.ps.length := by
  have e : ∀ (b : Nat) (cs : List Cub), ((rowFrom plAt b cs).length : Int) + freeM cs = cs.length := by
    intro b cs
    induction cs generalizing b with
    | nil => rfl
    | cons c cs ih =>
      have h1 := ih (b + 1)
      unfold freeM at *
      simp only [rowFrom, List.length_append, List.length_cons]
      generalize (rowFrom plAt (b + 1) cs).length = x at *
      cases hh : c.held with
      | true =>
        have h2 : (plAt b c).length = 1 := by unfold plAt; rw [if_pos hh]; rfl
        rw [List.filter_cons_of_neg (by simp [hh]), h2]; omega
      | false =>
        have h2 : (plAt b c).length = 0 := by unfold plAt; rw [if_neg (by simp [hh])]; rfl
        rw [List.filter_cons_of_pos (by simp [hh]), h2, List.length_cons]; omega
  have := e 0 cubs
  rw [← h.ps.length_eq] at this
  omega

/-! What is needed. -/
theorem flat_rise (m a : Nat) (ls : List Ln) (h : Rising ls) (hb : ∀ l ∈ ls, (a : Int) ≤ l.item ∧ l.item < a + m) : (List.range' a m).flatMap (fun it : Nat => ls.filter (fun l => l.item == (it : Int))) = ls := by
  induction m generalizing a ls with
  | zero =>
    cases ls with
    | nil => rfl
    | cons l ls => have := hb l (by simp); omega
  | succ m ih =>
    rw [List.range'_succ, List.flatMap_cons]
    cases ls with
    | nil => simp
    | cons l ls =>
      have hr : ∀ x ∈ ls, l.item < x.item := (List.pairwise_cons.1 h).1
      have hr2 : Rising ls := (List.pairwise_cons.1 h).2
      have hl := hb l (by simp)
      by_cases e : l.item = a
      · have e1 : (l :: ls).filter (fun x => x.item == (a : Int)) = [l] := by
          rw [List.filter_cons_of_pos (by simpa using e)]
          congr 1
          rw [List.filter_eq_nil_iff]
          intro x hx
          have := hr x hx
          simp; omega
        rw [e1]
        have e2 : (List.range' (a + 1) m).flatMap (fun it : Nat => (l :: ls).filter (fun x => x.item == (it : Int))) = (List.range' (a + 1) m).flatMap (fun it : Nat => ls.filter (fun x => x.item == (it : Int))) := by
          rw [List.flatMap_def, List.flatMap_def]
          congr 1
          apply List.map_congr_left
          intro it hit
          rw [List.mem_range'_1] at hit
          rw [List.filter_cons_of_neg (by simp; omega)]
        rw [e2, ih (a + 1) ls hr2 (fun x hx => by have := hr x hx; have := hb x (by simp [hx]); omega)]
        rfl
      · have e1 : (l :: ls).filter (fun x => x.item == (a : Int)) = [] := by
          rw [List.filter_eq_nil_iff]
          intro x hx
          rcases List.mem_cons.1 hx with rfl | hx
          · simp; omega
          · have := hr x hx
            simp; omega
        rw [e1, List.nil_append]
        refine ih (a + 1) (l :: ls) h fun x hx => ?_
        have h3 := hb x hx
        rcases List.mem_cons.1 hx with rfl | hx
        · omega
        · have := hr x hx; omega

def isNd (cubby item : Int) (d : Nd) : Bool := d.cubby == cubby && d.line.item == item
def needsR (r : Ref) (cubby : Int) : List Ln := (List.range 32).flatMap fun it : Nat => (r.ds.filter (isNd cubby it)).map (·.line)
theorem perm_short {α : Type} {l m : List α} (h : l.Perm m) (hm : m.length ≤ 1) : l = m := by
  match m, hm with
  | [], _ => exact h.eq_nil
  | [a], _ => exact List.perm_singleton.1 h
theorem rise_one {ls : List Ln} (h : Rising ls) (it : Int) : (ls.filter (fun l => l.item == it)).length ≤ 1 := by
  induction ls with
  | nil => simp
  | cons l ls ih =>
    have hr : ∀ x ∈ ls, l.item < x.item := (List.pairwise_cons.1 h).1
    by_cases e : l.item = it
    · rw [List.filter_cons_of_pos (by simpa using e)]
      have : ls.filter (fun x => x.item == it) = [] := by
        rw [List.filter_eq_nil_iff]
        intro x hx
        have := hr x hx
        simp; omega
      rw [this]; simp
    · rw [List.filter_cons_of_neg (by simpa using e)]
      exact ih (List.pairwise_cons.1 h).2
theorem rest_not (k : Nat) (cs : List Cub) (d : Nd) (hd : d ∈ rowFrom ndAt 0 (cs.set k Cub.bare)) : d.cubby ≠ k := by
  rw [mem_rowFrom] at hd
  obtain ⟨j, hj, h⟩ := hd
  rw [Nat.zero_add, List.getElem_set] at h
  unfold ndAt at h
  split at h
  · simp [Cub.bare] at h
  · rw [List.mem_map] at h
    obtain ⟨l, _, rfl⟩ := h
    simp only
    omega
theorem rest_not_pl (k : Nat) (cs : List Cub) (d : Pl) (hd : d ∈ rowFrom plAt 0 (cs.set k Cub.bare)) : d.cubby ≠ k := by
  rw [mem_rowFrom] at hd
  obtain ⟨j, hj, h⟩ := hd
  rw [Nat.zero_add, List.getElem_set] at h
  unfold plAt at h
  split at h
  · simp [Cub.bare] at h
  · split at h
    · simp at h
      rw [h]
      simp only
      omega
    · simp at h
theorem Rel.needs (h : Rel cubs r) (ho : WallOk cubs) (n : Int) : needsR r n = needsM cubs n := by
  unfold needsM
  cases hn : heldAt cubs n with
  | none =>
    unfold needsR
    rw [List.flatMap_eq_nil_iff]
    intro it _
    rw [List.map_eq_nil_iff, List.filter_eq_nil_iff]
    intro d hd
    obtain ⟨k, hk, h1, h2⟩ := (h.mem_ds d).1 hd
    unfold isNd
    intro h3
    simp only [Bool.and_eq_true, beq_iff_eq] at h3
    have e : n = k := by omega
    subst e
    rw [heldAt_in hk] at hn
    cases hh : cubs[k].held with
    | true => rw [hh] at hn; simp at hn
    | false =>
      have := (ho.2.2 _ (List.getElem_mem hk)).empty hh
      rw [this] at h2
      simp [Cub.bare] at h2
  | some c =>
    obtain ⟨k, hk, rfl, rfl, hh⟩ := heldAt_some hn
    have hok := ho.2.2 _ (List.getElem_mem hk)
    have hp := h.ds.trans (rowFrom_split ndAt ndAt_bare 0 cubs k hk)
    rw [Nat.zero_add] at hp
    have e : ∀ it : Nat, (r.ds.filter (isNd k it)).map (·.line) = cubs[k].needs.filter (fun l => l.item == (it : Int)) := by
      intro it
      refine perm_short ?_ (rise_one hok.rising it)
      have h1 := (hp.filter (isNd k it)).map (·.line)
      refine h1.trans (List.Perm.of_eq ?_)
      rw [List.filter_append]
      have h2 : (rowFrom ndAt 0 (cubs.set k Cub.bare)).filter (isNd k it) = [] := by
        rw [List.filter_eq_nil_iff]
        intro d hd
        have := rest_not k cubs d hd
        simp [isNd, this]
      rw [h2, List.append_nil]
      unfold ndAt
      rw [List.filter_map, List.map_map]
      have h3 : (fun d : Nd => d.line) ∘ (fun x : Ln => (⟨(k : Int), x⟩ : Nd)) = id := rfl
      rw [h3, List.map_id]
      congr 1
      funext l
      simp [isNd]
    unfold needsR
    rw [List.range_eq_range']
    have := flat_rise 32 0 cubs[k].needs hok.rising (fun l hl => by
      have h1 := (hok.each l hl).1
      have h2 := h.small _ (List.getElem_mem hk) l hl
      omega)
    simp only [e]
    exact this
end
end Go.Proofs.Ytlejhnigbmgbpaa
