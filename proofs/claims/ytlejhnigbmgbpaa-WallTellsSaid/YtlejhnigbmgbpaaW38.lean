import Derived.Test.YtlejhnigbmgbpaaW37
namespace Go.Proofs.Ytlejhnigbmgbpaa
open Go.RowKit Go.Lamp
set_option linter.unusedVariables false

section
variable {W w : World} {q n : Nat} {r : Ref} {R : HProp}
set_option maxHeartbeats 400000 in
theorem rless_calls (order item qty : Int) (hb : Bounded r) (hqty : ∀ d ∈ r.ds, d.line.qty ≤ 9223372036854775807) (hs : Sat W w (RefH q n r * R)) :
    Calls Try.prog 24 #[.pointer (some ⟨q, 0, none⟩), .int .u32 order, .int .u16 item, .int .i64 qty] w (RefPost W q n R (lessR r order item qty).2 (.int .i64 (lessR r order item qty).1)) := by
  have HC := Lib.hid (rcubby_calls order hb hs)
  have HP := Lib.hid (rput_calls (cubbyR r order) item qty hb hqty hs)
  have HS := Lib.hid hs
  unfold lessR
  generalize cubbyR r order = c at *
  clear hb hqty hs
  by_cases h : c < 0
  · rw [if_pos h]
    go_enter Try.func24, Try.ntmps24
    go_wp2_with fail
    refine HC.out.mono ?_
    rintro e w' ⟨rfl, rfl⟩
    go_wp2_with fail
    go_ret
    exact ⟨rfl, HS.out⟩
  · rw [if_neg h]
    go_enter Try.func24, Try.ntmps24
    go_wp2_with fail
    refine HC.out.mono ?_
    rintro e w' ⟨rfl, rfl⟩
    go_wp2_with fail
    refine HP.out.mono ?_
    rintro e w' ⟨rfl, hs2⟩
    go_wp2_with fail
    go_ret
    exact ⟨rfl, hs2⟩

/-! What is had of the relation. -/
variable {cubs : List Cub}
theorem rowFrom_le {α : Type} (f : Nat → Cub → List α) (m : Nat) (h : ∀ b, ∀ c ∈ cubs, (f b c).length ≤ m) (b : Nat) : (rowFrom f b cubs).length ≤ cubs.length * m := by
  induction cubs generalizing b with
  | nil => simp [rowFrom]
  | cons c cs ih =>
    simp only [rowFrom, List.length_append, List.length_cons, Nat.succ_mul]
    have h1 := h b c (by simp)
    have h2 := ih (fun b c hc => h b c (by simp [hc])) (b + 1)
    omega
theorem Rel.bounded (h : Rel cubs r) (ho : WallOk cubs) : Bounded r := by
  constructor
  · rw [h.ps.length_eq]
    have := rowFrom_le (cubs := cubs) plAt 1 (fun b c _ => by unfold plAt; split <;> simp) 0
    have := ho.2.1
    omega
  · rw [h.ds.length_eq]
    have h1 := rowFrom_le (cubs := cubs) ndAt 12 (fun b c hc => by unfold ndAt; rw [List.length_map]; exact (ho.2.2 c hc).many) 0
    have := ho.2.1
    omega
theorem Rel.qty (h : Rel cubs r) (ho : WallOk cubs) : ∀ d ∈ r.ds, d.line.qty ≤ 9223372036854775807 := by
  intro d hd
  obtain ⟨k, hk, _, h2⟩ := (h.mem_ds d).1 hd
  exact ((ho.2.2 _ (List.getElem_mem hk)).each _ h2).2.2.2
theorem both1 {α β γ : Type} {a : α × β} {b : α × γ} (h : b.1 = a.1) : b = (a.1, b.2) := by rw [← h]
def Both (cubs : List Cub) (r : Ref) (n : Nat) : Prop := WallGood cubs n ∧ Rel cubs r
theorem cut_small {ls : List Ln} (hw : LnWf ls) : ∀ l ∈ smallLn ls, l.item < 32 := by
  intro l hl
  unfold smallLn at hl
  rw [List.mem_map] at hl
  obtain ⟨x, hx, rfl⟩ := hl
  simp only [Ln.cut]
  omega
theorem Both.assign (h : Both cubs r n) (order : Int) {ls : List Ln} (hw : LnWf ls) : ∃ k e cs r', assignM cubs order (smallLn ls) = ((k, e), cs) ∧ assignR n r order (smallLn ls) = ((k, e), r') ∧ Both cs r' n := by
  obtain ⟨⟨h1, h2, h3⟩, h4⟩ := h
  have h5 := h4.assign h1 h3 order (smallLn ls) (cut_small hw)
  rw [h2] at h5
  exact ⟨(assignM cubs order (smallLn ls)).1.1, (assignM cubs order (smallLn ls)).1.2, (assignM cubs order (smallLn ls)).2, (assignR n r order (smallLn ls)).2, rfl, both1 h5.1, ⟨assignM_ok h1 _ (Nat.le_trans (smallLn_length _) (by omega)) (small_wf hw), by rw [assignM_length, h2], assignM_sole h3 _ _⟩, h5.2⟩
theorem Both.put (h : Both cubs r n) (c item qty : Int) : ∃ e cs r', putM cubs c item qty = (e, cs) ∧ putR r c item qty = (e, r') ∧ Both cs r' n := by
  obtain ⟨⟨h1, h2, h3⟩, h4⟩ := h
  have h5 := h4.put h1 c item qty
  exact ⟨(putM cubs c item qty).1, (putM cubs c item qty).2, (putR r c item qty).2, rfl, both1 h5.1, ⟨putM_ok h1 _ _ _, by rw [putM_length, h2], putM_sole h3 _ _ _⟩, h5.2⟩
theorem Both.less (h : Both cubs r n) (order item qty : Int) : ∃ e cs r', lessM cubs order item qty = (e, cs) ∧ lessR r order item qty = (e, r') ∧ Both cs r' n := by
  obtain ⟨⟨h1, h2, h3⟩, h4⟩ := h
  have h5 := h4.less h1 h3 order item qty
  refine ⟨(lessM cubs order item qty).1, (lessM cubs order item qty).2, (lessR r order item qty).2, rfl, both1 h5.1, ?_, h5.2⟩
  rcases lessM_eq cubs order item qty with e | e
  · rw [e]; exact ⟨h1, h2, h3⟩
  · rw [e]; exact ⟨putM_ok h1 _ _ _, by rw [putM_length, h2], putM_sole h3 _ _ _⟩
theorem Both.release (h : Both cubs r n) (c : Int) : ∃ k e cs r', releaseM cubs c = ((k, e), cs) ∧ releaseR r c = ((k, e), r') ∧ Both cs r' n := by
  obtain ⟨⟨h1, h2, h3⟩, h4⟩ := h
  have h5 := h4.release h1 c
  exact ⟨(releaseM cubs c).1.1, (releaseM cubs c).1.2, (releaseM cubs c).2, (releaseR r c).2, rfl, both1 h5.1, ⟨releaseM_ok h1 _, by rw [releaseM_length, h2], releaseM_sole h3 _⟩, h5.2⟩

/-! The contracts, their answers by name. -/
theorem Assign_as {p : Nat} {cs : List Cub} {order k e : Int} {v : Value} {ls : List Ln} (h : assignM cubs order (smallLn ls) = ((k, e), cs)) (hw : LnWf ls)
    (hs : Sat W w (LnR v (smallLn ls) * (WallH p cubs * R))) :
    Calls Try.prog 11 #[.pointer (some ⟨p, 0, none⟩), .int .u32 order, v] w (WallPost W p R cs (.tuple #[.int .i64 k, .int .i64 e])) := by
  have h2 := Assign_row order v (smallLn ls) (Nat.le_trans (smallLn_length _) (by omega)) (small_wf hw) hs
  rw [h] at h2
  refine h2.mono ?_
  rintro e w' ⟨rfl, hs2⟩
  exact ⟨rfl, (hs2.eq (star_left_comm _ _ _)).right⟩
theorem rassign_as {r' : Ref} {order k e : Int} {v : Value} {ls : List Ln} (h : assignR n r order (smallLn ls) = ((k, e), r')) (hn : n ≤ 16) (hb : Bounded r)
    (hs : Sat W w (LnR v (smallLn ls) * (RefH q n r * R))) :
    Calls Try.prog 22 #[.pointer (some ⟨q, 0, none⟩), .int .u32 order, v] w (RefPost W q n R r' (.tuple #[.int .i64 k, .int .i64 e])) := by
  have h2 := rassign_calls order v (smallLn ls) (Nat.le_trans (smallLn_length _) (by omega)) hn hb hs
  rw [h] at h2
  refine h2.mono ?_
  rintro e w' ⟨rfl, hs2⟩
  exact ⟨rfl, (hs2.eq (star_left_comm _ _ _)).right⟩
theorem Put_as {p : Nat} {cs : List Cub} {c item qty e : Int} (h : putM cubs c item qty = (e, cs)) (hq : -9223372036854775808 ≤ qty) (hs : Sat W w (WallH p cubs * R)) :
    Calls Try.prog 15 #[.pointer (some ⟨p, 0, none⟩), .int .i64 c, .int .u16 item, .int .i64 qty] w (WallPost W p R cs (.int .i64 e)) := by
  have h2 := Put_calls c item qty hs hq
  rw [h] at h2
  exact h2
theorem rput_as {r' : Ref} {c item qty e : Int} (h : putR r c item qty = (e, r')) (hb : Bounded r) (hqty : ∀ d ∈ r.ds, d.line.qty ≤ 9223372036854775807) (hs : Sat W w (RefH q n r * R)) :
    Calls Try.prog 23 #[.pointer (some ⟨q, 0, none⟩), .int .i64 c, .int .u16 item, .int .i64 qty] w (RefPost W q n R r' (.int .i64 e)) := by
  have h2 := rput_calls c item qty hb hqty hs
  rw [h] at h2
  exact h2
theorem Less_as {p : Nat} {cs : List Cub} {c item qty e : Int} (h : lessM cubs c item qty = (e, cs)) (hq : -9223372036854775808 ≤ qty) (hs : Sat W w (WallH p cubs * R)) :
    Calls Try.prog 16 #[.pointer (some ⟨p, 0, none⟩), .int .u32 c, .int .u16 item, .int .i64 qty] w (WallPost W p R cs (.int .i64 e)) := by
  have h2 := Less_calls c item qty hs hq
  rw [h] at h2
  exact h2
theorem rless_as {r' : Ref} {c item qty e : Int} (h : lessR r c item qty = (e, r')) (hb : Bounded r) (hqty : ∀ d ∈ r.ds, d.line.qty ≤ 9223372036854775807) (hs : Sat W w (RefH q n r * R)) :
    Calls Try.prog 24 #[.pointer (some ⟨q, 0, none⟩), .int .u32 c, .int .u16 item, .int .i64 qty] w (RefPost W q n R r' (.int .i64 e)) := by
  have h2 := rless_calls c item qty hb hqty hs
  rw [h] at h2
  exact h2
theorem Release_as {p : Nat} {cs : List Cub} {c k e : Int} (h : releaseM cubs c = ((k, e), cs)) (hs : Sat W w (WallH p cubs * R)) :
    Calls Try.prog 12 #[.pointer (some ⟨p, 0, none⟩), .int .i64 c] w (WallPost W p R cs (.tuple #[.int .u32 k, .int .i64 e])) := by
  have h2 := Release_calls c hs
  rw [h] at h2
  exact h2
theorem rrelease_as {r' : Ref} {c k e : Int} (h : releaseR r c = ((k, e), r')) (hb : Bounded r) (hs : Sat W w (RefH q n r * R)) :
    Calls Try.prog 25 #[.pointer (some ⟨q, 0, none⟩), .int .i64 c] w (RefPost W q n R r' (.tuple #[.int .u32 k, .int .i64 e])) := by
  have h2 := rrelease_calls c hb hs
  rw [h] at h2
  exact h2
end
end Go.Proofs.Ytlejhnigbmgbpaa
