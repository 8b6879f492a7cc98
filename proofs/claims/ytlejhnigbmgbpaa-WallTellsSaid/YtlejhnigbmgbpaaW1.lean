import Derived.Test.YtlejhnigbmgbpaaProg
import Derived.Test.YtlejhnigbmgbpaaWA
import Derived.Deep.LoopGhost
import Derived.Deep.QuietTactic
import Derived.BigQuiet
namespace Go.Proofs.Ytlejhnigbmgbpaa
open Go.RowKit Go.Lamp

/-! cmp.Compare at uint16; the closures of package wall. -/
structure Ln where
  item : Int
  loc : Int
  qty : Int
  deriving DecidableEq
def Ln.cells (l : Ln) : List Value := [.int .u16 l.item, .int .u16 l.loc, .int .i64 l.qty]
theorem Ln.cells_length (l : Ln) : l.cells.length = 3 := rfl

def cmp3 (x y : Int) : Int := if x < y then -1 else if y < x then 1 else 0

set_option maxHeartbeats 400000 in
theorem isNaN_u16 (x : Int) (w : World) :
    Calls Try.prog 53 #[.int .u16 x] w fun e w' => e = .returned (.bool false) ∧ w = w' := by
  go_enter Try.func53, Try.ntmps53
  go_wp2
  go_ret
  exact ⟨by simp, rfl⟩

set_option maxHeartbeats 400000 in
theorem compare_u16 (x y : Int) (w : World) :
    Calls Try.prog 44 #[.int .u16 x, .int .u16 y] w fun e w' => e = .returned (.int .i64 (cmp3 x y)) ∧ w = w' := by
  unfold cmp3
  go_enter Try.func44, Try.ntmps44
  go_wp2_with (go_at_call 53; refine (isNaN_u16 _ _).mono ?_; rintro e w' ⟨rfl, rfl⟩)
  all_goals
    go_ret
    exact ⟨by (repeat' split) <;> first | rfl | omega, rfl⟩

set_option maxHeartbeats 400000 in
theorem sorted1_calls (a b : Ln) (w : World) :
    Calls Try.prog 43 #[.agg #[.int .u16 a.item, .int .u16 a.loc, .int .i64 a.qty], .agg #[.int .u16 b.item, .int .u16 b.loc, .int .i64 b.qty]] w fun e w' =>
      e = .returned (.int .i64 (cmp3 a.item b.item)) ∧ Below w.heap.size w w' := by
  go_enter Try.func43, Try.ntmps43
  go_wp2_with (go_at_call 44; refine (compare_u16 _ _ _).mono ?_; rintro e w' ⟨rfl, rfl⟩)
  go_ret
  exact ⟨rfl, ((Below.refl _ _).alloc (Nat.le_refl _) _).alloc (by simp) _⟩

set_option maxHeartbeats 400000 in
theorem place1_calls (a : Ln) (item : Int) (w : World) :
    Calls Try.prog 49 #[.agg #[.int .u16 a.item, .int .u16 a.loc, .int .i64 a.qty], .int .u16 item] w fun e w' =>
      e = .returned (.int .i64 (cmp3 a.item item)) ∧ Below w.heap.size w w' := by
  go_enter Try.func49, Try.ntmps49
  go_wp2_with (go_at_call 44; refine (compare_u16 _ _ _).mono ?_; rintro e w' ⟨rfl, rfl⟩)
  go_ret
  exact ⟨rfl, (Below.refl _ _).alloc (Nat.le_refl _) _⟩

set_option maxHeartbeats 400000 in
theorem of1_calls (b : Bool) (o q : Int) (v : Value) (p : Nat) (w : World) (hp : w.cell? ⟨p, 0, none⟩ = some (.int .u32 q)) :
    Calls Try.prog 47 #[.agg #[.bool b, .int .u32 o, v], .pointer (some ⟨p, 0, none⟩)] w fun e w' =>
      e = .returned (.bool (b && o == q)) ∧ Below w.heap.size w w' := by
  have hlt := World.block_lt_of_cell? w _ hp
  simp only at hlt
  cases b
  all_goals
    go_enter Try.func47, Try.ntmps47
    go_wp2
    go_ret
    exact ⟨by simp, (Below.refl _ _).alloc (Nat.le_refl _) _⟩

set_option maxHeartbeats 400000 in
theorem free_calls (b : Bool) (o : Int) (v : Value) (w : World) :
    Calls Try.prog 34 #[.agg #[.bool b, .int .u32 o, v]] w fun e w' => e = .returned (.bool (!b)) ∧ Below w.heap.size w w' := by
  go_enter Try.func34, Try.ntmps34
  go_wp2
  go_ret
  exact ⟨rfl, (Below.refl _ _).alloc (Nat.le_refl _) _⟩
end Go.Proofs.Ytlejhnigbmgbpaa
