import Derived.RangeFuncNested
import Derived.RangeFuncBound
import Derived.RangeFuncCalls
import Derived.RangeFuncLeaves
import Derived.RangeFuncBox
import Derived.Shelf.Abstract
import Derived.Shelf.RegionOpen
import Derived.OwnWalkIn
import Derived.TacticsInMore
import Derived.LoopNIn
import Derived.LoopIn
import Derived.Maps.AppendAt
import Derived.Test.YtlejhnigbmgbpaaW12
namespace Go.Proofs.Ytlejhnigbmgbpaa
open Go.RowKit Go.Lamp Go.Shelf
attribute [local go_sem] Oper.semAt_some

/-- The value of a line. -/
abbrev Ln.val (l : Ln) : Value := .agg #[.int .u16 l.item, .int .u16 l.loc, .int .i64 l.qty]

set_option maxRecDepth 100000 in
set_option maxHeartbeats 2000000 in
/-- slices.Values's closure at lines: each line in its order, for every loop body that keeps what lay below n₀. -/
theorem values1_in (n : Nat) (hn : 1 ≤ n) (l Bs n₀ b cap : Nat) (ls : List Ln) (hreach : ls.length ≤ 4096) (hb : b < n₀) (hBs0 : Bs < n₀) (J Jx : List Ln → World → Prop)
    (hY : ∀ pre x W, J pre W → pre.length < ls.length → YieldAt Fence.wide (n - 1) Try.prog l #[Ln.val x] W fun e W' =>
      (e = .returned (.bool true) ∧ J (pre ++ [x]) W' ∧ Below n₀ W W') ∨ (e = .returned (.bool false) ∧ Jx (pre ++ [x]) W'))
    (W : World) (hn0 : n₀ ≤ W.heap.size) (hJa : AbidesFrom W.heap.size J) (hBs : W.cell? ⟨Bs, 0, none⟩ = some (.slice (some ⟨b, 0, none⟩) ls.length cap)) (hat : LnAt W b ls) (h0 : J [] W) :
    CallsIn Fence.wide n Try.prog 52 #[.func (.yield l) #[] #[], .pointer (some ⟨Bs, 0, none⟩)] W fun e W' => (∃ v, e = .returned v) ∧
      ((∃ ys, ys = ls ∧ J ys W') ∨ (∃ pre, True ∧ Jx pre W')) := by
  refine callsIn_of_wp Try.func52 rfl trivial ?_ rfl
  simp only [Try.ntmps52, List.size_toArray, List.length_cons, List.length_nil, Nat.reduceAdd, Nat.reduceSub, Array.replicate_succ, Array.replicate_zero, List.push_toArray, List.append_toArray, List.nil_append, List.cons_append]
  have HAt : Hid (LnAt W b ls) := hat
  have HY := Lib.hid hY
  have HJa : Hid (AbidesFrom W.heap.size J) := hJa
  have HR := Lib.hid hreach
  clear hat hY hJa hreach
  gi_wp2
  gi_loopw [4, 7] (fun _ i wr => ∃ k : Nat, k ≤ ls.length ∧ i = .int .i64 k ∧ J (ls.take k) wr ∧ Below n₀ W wr)
    (fun _ i _ => ls.length - (intOf i).toNat)
  case atStart => exact ⟨0, Nat.zero_le _, rfl, h0, Below.refl _ _⟩
  case round =>
    obtain ⟨k, hk, rfl, hJs, hnx⟩ := hrel
    by_cases hlt : k < ls.length
    · obtain ⟨c0, c1, c2⟩ := HAt.out k hlt
      have d0 := (hnx.cell (p := ⟨b, k * 3, none⟩) hb).trans c0
      have d1 := (hnx.cell (p := ⟨b, k * 3 + 1, none⟩) hb).trans c1
      have d2 := (hnx.cell (p := ⟨b, k * 3 + 2, none⟩) hb).trans c2
      have hJ2 : J (ls.take k) (wr.alloc (.cells #[.int .u16 ls[k].item, .int .u16 ls[k].loc, .int .i64 ls[k].qty] 50)) := HJa.out _ _ _ none hJs (World.grownBy_alloc _ _ _) (fun r e => by cases e)
      have hYk := HY.out _ ls[k] (wr.alloc (.cells #[.int .u16 ls[k].item, .int .u16 ls[k].loc, .int .i64 ls[k].qty] 50)) hJ2 (by rw [List.length_take]; omega)
      obtain ⟨fn, tmps, assign, body, hy, hR⟩ := hYk
      have hk2 : k < 4096 := by have := HR.out; omega
      have HRd := Lib.hid hR
      clear hR
      gi_wp2
      refine HRd.out.mono ?_
      have hle := hnx.size
      rintro e W3 (⟨rfl, hJ3, hk3⟩ | ⟨rfl, hJx3⟩)
      · gi_wp2
        go_roundw
        case rel => exact ⟨k + 1, by omega, by go_num, by rw [List.take_succ_eq_append_getElem hlt]; exact hJ3, (hnx.alloc (by omega) _).trans hk3⟩
        case measure => simp [intOf]; omega
      · gi_wp2
        refine bodyPost_ret (results_none rfl _ _ _) rfl ?_
        exact ⟨⟨_, rfl⟩, .inr ⟨_, trivial, hJx3⟩⟩
    · obtain rfl : k = ls.length := by omega
      gi_wp2
      go_end0
      exact ⟨⟨_, rfl⟩, .inl ⟨_, rfl, by rw [List.take_length] at hJs; exact hJs⟩⟩

set_option maxRecDepth 100000 in
set_option maxHeartbeats 1000000 in
theorem values1_nil_in (n : Nat) (l Bs : Nat) (J : List Ln → World → Prop) (W : World) (hBs : W.cell? ⟨Bs, 0, none⟩ = some (.slice none 0 0)) (h0 : J [] W) :
    CallsIn Fence.wide n Try.prog 52 #[.func (.yield l) #[] #[], .pointer (some ⟨Bs, 0, none⟩)] W fun e W' => (∃ v, e = .returned v) ∧ J [] W' := by
  refine callsIn_of_wp Try.func52 rfl trivial ?_ rfl
  simp only [Try.ntmps52, List.size_toArray, List.length_cons, List.length_nil, Nat.reduceAdd, Nat.reduceSub, Array.replicate_succ, Array.replicate_zero, List.push_toArray, List.append_toArray, List.nil_append, List.cons_append]
  gi_wp2
  gi_loopw [7] (fun i wr => i = .int .i64 0 ∧ J [] wr) (fun _ _ => 0)
  case atStart => exact ⟨rfl, h0⟩
  case round =>
    obtain ⟨rfl, hJs⟩ := hrel
    gi_wp2
    go_end0
    exact ⟨⟨_, rfl⟩, hJs⟩

/-- The slice value sv holds the lines ls, in a block below n₀; or it is nil and there are none. -/
def LnsBelow (n₀ : Nat) (W : World) (sv : Value) (ls : List Ln) : Prop :=
  (sv = .slice none 0 0 ∧ ls = []) ∨ ∃ b cap, sv = .slice (some ⟨b, 0, none⟩) ls.length cap ∧ b < n₀ ∧ LnAt W b ls
theorem LnsBelow.below {n₀ : Nat} {A B : World} (h : Below n₀ A B) {sv : Value} {ls : List Ln} : LnsBelow n₀ A sv ls → LnsBelow n₀ B sv ls
  | .inl e => .inl e
  | .inr ⟨b, cap, e, hb, hc⟩ => .inr ⟨b, cap, e, hb, fun k hk => by
      obtain ⟨h0, h1, h2⟩ := hc k hk
      exact ⟨(h.cell (p := ⟨b, k * 3, none⟩) hb).trans h0, (h.cell (p := ⟨b, k * 3 + 1, none⟩) hb).trans h1, (h.cell (p := ⟨b, k * 3 + 2, none⟩) hb).trans h2⟩⟩

theorem values_stops (n : Nat) (hn : 1 ≤ n) (Bs n₀ : Nat) (sv : Value) (ls : List Ln) (hreach : ls.length ≤ 4096) (w : World) (hBs : Bs < n₀) (hn₀ : n₀ ≤ w.heap.size)
    (hc : w.cell? ⟨Bs, 0, none⟩ = some sv) (hI : LnsBelow n₀ w sv ls) :
    SeqStopsK Fence.wide n Try.prog 52 #[.pointer (some ⟨Bs, 0, none⟩)] (fun x : Ln => #[Ln.val x]) (Below n₀) (fun ys => ys = ls) (fun _ => True) ls.length w := fun l J Jx W hW hJa _ hY h0 => by
  have hc' := (hW.cell (p := ⟨Bs, 0, none⟩) (by show Bs < _; omega)).trans hc
  rcases hI.below (hW.mono hn₀) with ⟨rfl, rfl⟩ | ⟨b, cap, rfl, hb, hcs⟩
  · exact (values1_nil_in n l Bs J W hc' h0).mono fun e W' ⟨he, hj⟩ => ⟨he, .inl ⟨_, rfl, hj⟩⟩
  · exact values1_in n hn l Bs n₀ b cap ls hreach hb hBs J Jx hY W (by have := hW.size; omega) hJa hc' hcs h0

set_option maxHeartbeats 1000000 in
theorem values_calls (a : Option Addr) (len cap : Nat) (w : World) :
    Calls Try.prog 42 #[.slice a len cap] w fun e w' => e = .returned (.func (.func 52) #[] #[.pointer (some ⟨w.heap.size, 0, none⟩)]) ∧ w.alloc (.cells #[.slice a len cap] 37) = w' := by
  go_enter Try.func42, Try.ntmps42
  go_wp2
  go_ret
  exact ⟨rfl, rfl⟩
end Go.Proofs.Ytlejhnigbmgbpaa
