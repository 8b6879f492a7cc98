import Derived.Test.YtlejhnigbmgbpaaW22
import Derived.Test.YtlejhnigbmgbpaaW20
namespace Go.Proofs.Ytlejhnigbmgbpaa
open Go.RowKit Go.Lamp

/-! The steps of the laws. -/
structure Stp where
  kind : Int
  cubby : Int
  qty : Int
  id : Int
  item : Int
  la : Option Addr
  ln : Nat
  lc : Nat
  ls : List Ln
def Stp.cells (s : Stp) : List Value := [.int .i64 s.kind, .int .i64 s.cubby, .int .i64 s.qty, .int .u32 s.id, .int .u16 s.item, .slice s.la s.ln s.lc]
structure Stp.Ok (W : World) (s : Stp) : Prop where
  old : LnOld W s.la s.ln s.ls
  wf : LnWf s.ls
  len : s.ln ≤ 9223372036854775807
  qty : -9223372036854775808 ≤ s.qty
  item0 : 0 ≤ s.item
  item1 : s.item ≤ 65535
def StpOld (W : World) (a : Option Addr) (n : Nat) (ss : List Stp) : Prop :=
  ss.length = n ∧ (∀ s ∈ ss, s.Ok W) ∧ (n = 0 ∨ ∃ b off, a = some ⟨b, off, none⟩ ∧ ∀ k (hk : k < ss.length),
    W.cell? ⟨b, off + k * 6, none⟩ = some (.int .i64 ss[k].kind) ∧ W.cell? ⟨b, off + k * 6 + 1, none⟩ = some (.int .i64 ss[k].cubby) ∧ W.cell? ⟨b, off + k * 6 + 2, none⟩ = some (.int .i64 ss[k].qty) ∧
    W.cell? ⟨b, off + k * 6 + 3, none⟩ = some (.int .u32 ss[k].id) ∧ W.cell? ⟨b, off + k * 6 + 4, none⟩ = some (.int .u16 ss[k].item) ∧ W.cell? ⟨b, off + k * 6 + 5, none⟩ = some (.slice ss[k].la ss[k].ln ss[k].lc))
abbrev StpB (X : Nat) (x : Stp) : HProp := blk X (.cells #[.int .i64 x.kind, .int .i64 x.cubby, .int .i64 x.qty, .int .u32 x.id, .int .u16 x.item, .slice x.la x.ln x.lc] 39 (0, 0))
abbrev LnR (v : Value) (ls : List Ln) : HProp := Row 50 3 v ls.length (flat Ln.cells ls)
theorem free_set {cubs : List Cub} {k : Nat} (hk : k < cubs.length) (hf : cubs[k].held = false) {c : Cub} (hc : c.held = true) : freeM (cubs.set k c) = freeM cubs - 1 := by
  unfold freeM
  rw [List.set_eq_take_append_cons_drop, if_pos hk, List.filter_append, List.filter_cons_of_neg (by simp [hc])]
  have e : cubs = cubs.take k ++ cubs[k] :: cubs.drop (k + 1) := by simp
  have h2 : (cubs.filter fun c => !c.held).length = ((cubs.take k).filter fun c => !c.held).length + (((cubs.drop (k + 1)).filter fun c => !c.held).length + 1) := by
    conv => lhs; rw [e]
    rw [List.filter_append, List.filter_cons_of_pos (by simp [hf]), List.length_append, List.length_cons]
  rw [List.length_append, h2]
  omega
theorem assign_cases (cubs : List Cub) (order : Int) (ls : List Ln) :
    ((assignM cubs order ls).1.2 = 0 ∧ freeM (assignM cubs order ls).2 = freeM cubs - 1 ∧ freeM cubs ≠ 0) ∨
    ((assignM cubs order ls).1.2 ≠ 0 ∧ (assignM cubs order ls).2 = cubs) := by
  unfold assignM
  split
  · exact .inr ⟨by simp, rfl⟩
  · split
    · exact .inr ⟨by simp, rfl⟩
    · split
      · exact .inr ⟨by simp, rfl⟩
      · rename_i h1 h2 h3
        obtain ⟨k, hk, hfk, hfree, _⟩ := firstIdx_nonneg (f := fun c : Cub => !c.held) (l := cubs) (by unfold firstFree at h3; omega)
        have e : firstFree cubs = k := hfk
        refine .inl ⟨rfl, ?_, ?_⟩
        · simp only [e, Int.toNat_natCast]
          exact free_set hk (by simpa using hfree) rfl
        · have h4 := free_set (c := ⟨true, 0, []⟩) hk (by simpa using hfree) rfl
          have h5 : 0 ≤ freeM (cubs.set k ⟨true, 0, []⟩) := by unfold freeM; omega
          omega
/-- What a step does to the wall. -/
def stepM (cubs : List Cub) (s : Stp) : List Cub :=
  if s.kind = 0 ∨ s.kind = 1 then (assignM cubs s.id (smallLn s.ls)).2
  else if s.kind = 2 ∨ s.kind = 3 ∨ s.kind = 4 then (putM cubs s.cubby (s.item % 32) s.qty).2
  else if s.kind = 5 then (lessM cubs s.id (s.item % 32) s.qty).2
  else if s.kind = 6 then (releaseM cubs s.cubby).2
  else cubs
theorem small_wf {ls : List Ln} (h : LnWf ls) : ∀ l ∈ smallLn ls, 0 ≤ l.item ∧ l.item ≤ 65535 ∧ l.qty ≤ 9223372036854775807 := by
  intro l hl
  unfold smallLn at hl
  rw [List.mem_map] at hl
  obtain ⟨x, hx, rfl⟩ := hl
  obtain ⟨h1, _, _, h4⟩ := h x (List.mem_of_mem_take hx)
  refine ⟨?_, ?_, h4⟩ <;> simp only [Ln.cut] <;> omega
theorem _root_.Go.Lamp.Sat.cellAt {W w : World} {R : HProp} {b i : Nat} {c : Array Value} {e : TypeId} {f : Nat × Nat} {v : Value} (h : Sat W w (blk b (.cells c e f) * R)) (hv : c[i]? = some v) : w.cell? ⟨b, i, none⟩ = some v := by rw [h.cell]; exact hv


/-! What the steps keep. -/
def Sole (cubs : List Cub) : Prop := ∀ i j (hi : i < cubs.length) (hj : j < cubs.length), i ≠ j → cubs[i].held = true → cubs[j].held = true → cubs[i].order ≠ cubs[j].order
theorem Sole.set {cubs : List Cub} (h : Sole cubs) (k : Nat) (c : Cub) (hc : c.held = true → ∀ j (hj : j < cubs.length), j ≠ k → cubs[j].held = true → cubs[j].order ≠ c.order) : Sole (cubs.set k c) := by
  intro i j hi hj hij
  rw [List.getElem_set, List.getElem_set]
  rw [List.length_set] at hi hj
  split
  · split
    · omega
    · rename_i h1 h2
      intro a b hx
      exact hc a j hj (by omega) b hx.symm
  · split
    · rename_i h1 h2
      intro a b
      exact hc b i hi (by omega) a
    · exact h i j hi hj hij
theorem put_same (c : Cub) (item qty : Int) : (c.put item qty).2.held = c.held ∧ (c.put item qty).2.order = c.order := by
  unfold Cub.put
  split
  · split
    · split
      · exact ⟨rfl, rfl⟩
      · split
        · exact ⟨rfl, rfl⟩
        · split <;> exact ⟨rfl, rfl⟩
    · exact ⟨rfl, rfl⟩
  · exact ⟨rfl, rfl⟩
theorem putM_sole {cubs : List Cub} (h : Sole cubs) (n item qty : Int) : Sole (putM cubs n item qty).2 := by
  unfold putM
  split
  · rename_i c hh
    obtain ⟨k, hk, rfl, rfl, hheld⟩ := heldAt_some hh
    refine h.set _ _ fun _ j hj hjk hjh => ?_
    rw [(put_same _ _ _).2]
    exact h j k hj hk (by simpa using hjk) hjh hheld
  · exact h
theorem putM_length (cubs : List Cub) (n item qty : Int) : (putM cubs n item qty).2.length = cubs.length := by
  unfold putM
  split
  · exact List.length_set
  · rfl
theorem assignM_sole {cubs : List Cub} (h : Sole cubs) (order : Int) (ls : List Ln) : Sole (assignM cubs order ls).2 := by
  unfold assignM
  split
  · exact h
  · split
    · exact h
    · split
      · exact h
      · rename_i h1 _ _
        refine h.set _ _ fun _ j hj _ hjh he => h1 ?_
        cases hk : cubs.findIdx? (isOf order) with
        | some k => unfold firstIdx; rw [hk]; simp
        | none =>
          rw [List.findIdx?_eq_none_iff] at hk
          have := hk _ (List.getElem_mem hj)
          simp [isOf, hjh, he] at this
theorem assignM_length (cubs : List Cub) (order : Int) (ls : List Ln) : (assignM cubs order ls).2.length = cubs.length := by
  unfold assignM
  split
  · rfl
  · split
    · rfl
    · split
      · rfl
      · exact List.length_set
theorem releaseM_sole {cubs : List Cub} (h : Sole cubs) (n : Int) : Sole (releaseM cubs n).2 := by
  unfold releaseM
  split
  · exact h.set _ _ fun hc => by simp [Cub.bare] at hc
  · exact h
theorem releaseM_length (cubs : List Cub) (n : Int) : (releaseM cubs n).2.length = cubs.length := by
  unfold releaseM
  split
  · exact List.length_set
  · rfl
def WallGood (cubs : List Cub) (n : Nat) : Prop := WallOk cubs ∧ cubs.length = n ∧ Sole cubs
theorem lessM_eq (cubs : List Cub) (order item qty : Int) : lessM cubs order item qty = (6, cubs) ∨ lessM cubs order item qty = putM cubs (firstIdx (isOf order) cubs) item qty := by
  unfold lessM
  split
  · exact .inr rfl
  · exact .inl rfl
theorem stepM_good {cubs : List Cub} {n : Nat} {s : Stp} (h : WallGood cubs n) (hl : LnWf s.ls) : WallGood (stepM cubs s) n := by
  obtain ⟨h1, h2, h3⟩ := h
  unfold stepM
  split
  · exact ⟨assignM_ok h1 _ (Nat.le_trans (smallLn_length _) (by omega)) (small_wf hl), by rw [assignM_length, h2], assignM_sole h3 _ _⟩
  · split
    · exact ⟨putM_ok h1 _ _ _, by rw [putM_length, h2], putM_sole h3 _ _ _⟩
    · split
      · rcases lessM_eq cubs s.id (s.item % 32) s.qty with e | e
        · rw [e]; exact ⟨h1, h2, h3⟩
        · rw [e]; exact ⟨putM_ok h1 _ _ _, by rw [putM_length, h2], putM_sole h3 _ _ _⟩
      · split
        · exact ⟨releaseM_ok h1 _, by rw [releaseM_length, h2], releaseM_sole h3 _⟩
        · exact ⟨h1, h2, h3⟩
theorem newM_good (a : Int) : WallGood (newM a) (newM a).length := by
  refine ⟨newM_ok a, rfl, fun i j hi hj hij h1 => ?_⟩
  have := List.eq_of_mem_replicate (List.getElem_mem (l := newM a) hi)
  rw [this] at h1
  simp [Cub.bare] at h1
theorem sole_first {cubs : List Cub} (h : Sole cubs) {k : Nat} (hk : k < cubs.length) (hh : cubs[k].held = true) : firstIdx (isOf cubs[k].order) cubs = k := by
  refine firstIdx_at hk (fun j hj hjk => ?_) (by simp [isOf, hh])
  simp only [isOf, Bool.and_eq_false_iff]
  cases hjh : cubs[j].held with
  | false => exact .inl rfl
  | true => exact .inr (by simpa using h j k hj hk (by omega) hjh hh)
def heldN (cubs : List Cub) (k : Nat) : Nat := ((cubs.take k).filter fun c => c.held).length
theorem heldN_zero (cubs : List Cub) : heldN cubs 0 = 0 := rfl
theorem heldN_le (cubs : List Cub) (k : Nat) : heldN cubs k ≤ k := by
  unfold heldN
  have h1 := List.length_filter_le (fun c : Cub => c.held) (cubs.take k)
  have h2 := List.length_take_le k cubs
  omega
theorem heldN_succ {cubs : List Cub} {k : Nat} (hk : k < cubs.length) : heldN cubs (k + 1) = heldN cubs k + if cubs[k].held then 1 else 0 := by
  unfold heldN
  rw [List.take_succ_eq_append_getElem hk, List.filter_append, List.length_append]
  cases h : cubs[k].held with
  | true => rw [List.filter_cons_of_pos h]; rfl
  | false => rw [List.filter_cons_of_neg (by simp [h])]; rfl
theorem heldN_all (cubs : List Cub) : (heldN cubs cubs.length : Int) = cubs.length - freeM cubs := by
  unfold heldN freeM
  rw [List.take_length]
  have : ∀ l : List Cub, (l.filter fun c => c.held).length + (l.filter fun c => !c.held).length = l.length := by
    intro l
    induction l with
    | nil => rfl
    | cons a l ih => cases h : a.held <;> simp [h] <;> omega
  have := this cubs
  omega
theorem orderM_in {cubs : List Cub} {k : Nat} (hk : k < cubs.length) : orderM cubs k = if cubs[k].held then (cubs[k].order, true) else (0, false) := by
  unfold orderM
  rw [heldAt_in hk]
  cases h : cubs[k].held <;> rfl
end Go.Proofs.Ytlejhnigbmgbpaa
