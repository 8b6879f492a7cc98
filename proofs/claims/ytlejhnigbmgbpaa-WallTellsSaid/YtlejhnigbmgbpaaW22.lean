import Derived.Test.YtlejhnigbmgbpaaW19
import Derived.Laws.BitsAll
namespace Go.Proofs.Ytlejhnigbmgbpaa
open Go.RowKit Go.Lamp

/-- Lines that came in: they read so at the begin. -/
def LnOld (W : World) (a : Option Addr) (n : Nat) (ls : List Ln) : Prop :=
  ls.length = n ∧ (n = 0 ∨ ∃ b off, a = some ⟨b, off, none⟩ ∧ ∀ k (hk : k < ls.length),
    W.cell? ⟨b, off + k * 3, none⟩ = some (.int .u16 ls[k].item) ∧ W.cell? ⟨b, off + k * 3 + 1, none⟩ = some (.int .u16 ls[k].loc) ∧ W.cell? ⟨b, off + k * 3 + 2, none⟩ = some (.int .i64 ls[k].qty))
def LnWf (ls : List Ln) : Prop := ∀ l ∈ ls, (0 ≤ l.item ∧ l.item ≤ 65535) ∧ (0 ≤ l.loc ∧ l.loc ≤ 65535) ∧ -9223372036854775808 ≤ l.qty ∧ l.qty ≤ 9223372036854775807
def Ln.cut (l : Ln) : Ln := { l with item := l.item % 32 }
def smallLn (ls : List Ln) : List Ln := (ls.take 10).map Ln.cut
theorem smallLn_length (ls : List Ln) : (smallLn ls).length ≤ 10 := by simp [smallLn]; omega
theorem smallLn_snoc (ls : List Ln) (k : Nat) (hk : k < ls.length) : (ls.take (k + 1)).map Ln.cut = (ls.take k).map Ln.cut ++ [ls[k].cut] := by
  rw [List.take_succ_eq_append_getElem hk, List.map_append]; rfl

theorem Assign_row {W w : World} {p : Nat} {cubs : List Cub} {R : HProp} (order : Int) (v : Value) (ls : List Ln) (hn : ls.length ≤ 12) (hi : ∀ l ∈ ls, 0 ≤ l.item ∧ l.item ≤ 65535 ∧ l.qty ≤ 9223372036854775807)
    (hs : Sat W w (Row 50 3 v ls.length (flat Ln.cells ls) * (WallH p cubs * R))) :
    Calls Try.prog 11 #[.pointer (some ⟨p, 0, none⟩), .int .u32 order, v] w (WallPost W p (Row 50 3 v ls.length (flat Ln.cells ls) * R) (assignM cubs order ls).2 (.tuple #[.int .i64 (assignM cubs order ls).1.1, .int .i64 (assignM cubs order ls).1.2])) := by
  have hs2 := hs.eq (star_left_comm _ _ _)
  obtain ⟨b, cap, _, hv, hcap, hmax, hat⟩ := LnAt.of_row hs
  rcases hs.row_cases with ⟨rfl, h0, hx, _⟩ | ⟨g, cap', cur, rfl, _, _, _, _, hb⟩
  · have hz : ls = [] := List.eq_nil_of_length_eq_zero h0
    subst hz
    exact Assign_calls order none 0 0 [] hn hi hs2 (LnsBelow.nil _ _)
  · refine Assign_calls order (some ⟨g, 0, none⟩) ls.length cap' ls hn hi hs2 ?_
    rcases hv with hv | ⟨hv, _⟩
    · simp only [Value.slice.injEq, Option.some.injEq, Addr.mk.injEq] at hv
      obtain ⟨⟨rfl, _⟩, _, _⟩ := hv
      exact .inr ⟨g, cap', rfl, hb.lt, hat⟩
    · cases hv

theorem and31 (x : Int) (h0 : 0 ≤ x) (h1 : x ≤ 65535) : bits BinOp.and IntKind.u16 x 31 = x % 32 := by
  rw [u16_and x 31 (by omega) (by omega) (by omega) (by omega)]
  rw [show (31 : Int).toNat = 31 from rfl, nat_mask5]
  omega

set_option maxRecDepth 100000 in
set_option maxHeartbeats 1000000 in
theorem small_calls {W w : World} {R : HProp} (a : Option Addr) (n cap : Nat) (ls : List Ln) (ho : LnOld W a n ls) (hw : LnWf ls) (hn : n ≤ 9223372036854775807) (hs : Sat W w (Old W * R)) :
    Calls Try.prog 14 #[.slice a n cap] w (RetLines W (Old W * R) (smallLn ls)) := by
  have HO : Hid (LnOld W a n ls) := ho
  have HW : Hid (LnWf ls) := hw
  have HN := Lib.hid hn
  clear ho hw hn
  go_enter Try.func14, Try.ntmps14
  go_wp2_with fail
  go_loopw [3, 4] (fun v vi wr => ∃ i : Nat, i ≤ 10 ∧ i ≤ n ∧ vi = .int .i64 i ∧ Sat W wr (Row 50 3 v i (flat Ln.cells ((ls.take i).map Ln.cut)) * (Old W * R))) (fun _ vi _ => (10 - intOf vi).toNat)
  case atStart => exact ⟨0, by omega, by omega, rfl, by simpa [flat_nil] using hs.row_nil 50 3⟩
  case round =>
    obtain ⟨i, hi, hin, rfl, hsr⟩ := hrel
    have hlen := HO.out.1
    have HLen := Lib.hid hlen
    by_cases c1 : i < n
    · by_cases c2 : i < 10
      · have c1' : (i : Int) < n := by omega
        have c2' : (i : Int) < 10 := by omega
        rcases HO.out.2 with h0 | ⟨b, off, rfl, hc⟩
        · omega
        · obtain ⟨c0, c1, c2⟩ := hc i (by omega)
          have hso := hsr.right
          have d0 := hso.old_cell c0
          have d1 := hso.old_cell c1
          have d2 := hso.old_cell c2
          obtain ⟨⟨w1, w2⟩, ⟨w3, w4⟩, w5, w6⟩ := HW.out _ (List.getElem_mem (by omega : i < ls.length))
          have HHn := HN.out
          clear hc hso
          have hb31 := and31 ls[i].item w1 w2
          have hsn := smallLn_snoc ls i (by omega)
          have HSn := Lib.hid hsn
          clear hsn
          go_wp2_with (at_builtin; go_must (refine append_line rfl (.tmp 24) (.tmp 26) rfl rfl (W := W) (R := Old W * R) ((hsr.alloc_keep _).alloc_keep _) rfl (sv := .slice (some ⟨wr.heap.size + 1, 0, none⟩) 1 1) (m := 1) (news := Ln.cells ls[i].cut) (.inr ⟨_, _, rfl, fun j u hu => ?_⟩) rfl ?_ ?_ (fun v' w' hs' _ => ?_)))
          case refine_1 =>
            have h3 := cells_new (wr.alloc (.cells #[.int .u16 (ls[i].item % 32), .int .u16 ls[i].loc, .int .i64 ls[i].qty] 50)) #[.int .u16 (ls[i].item % 32), .int .u16 ls[i].loc, .int .i64 ls[i].qty] 50 j _ hu
            rw [World.size_alloc] at h3
            exact h3
          case refine_2 =>
            intro u hu
            simp [Ln.cells] at hu
            rcases hu with rfl | rfl | rfl <;> rfl
          case refine_3 => omega
          have hs2 : Sat W w' (Row 50 3 v' (i + 1) (flat Ln.cells ((ls.take (i + 1)).map Ln.cut)) * (Old W * R)) := by
            rw [HSn.out, flat_append]; exact hs'
          have HS2 := Lib.hid hs2
          clear hs2 hs'
          go_wp2_with fail
          go_roundw
          case rel => exact ⟨i + 1, by omega, by omega, by go_num, HS2.out⟩
          case measure => simp [intOf]; omega
      · obtain rfl : i = 10 := by omega
        have c1' : ((10 : Nat) : Int) < n := by omega
        have HE : Hid ((smallLn ls).length = 10) := by unfold Hid smallLn; simp; omega
        go_wp2_with fail
        go_ret
        refine ⟨_, rfl, ?_⟩
        rw [HE.out]
        exact hsr
    · obtain rfl : i = n := by omega
      have HE : Hid ((smallLn ls).length = i ∧ smallLn ls = (ls.take i).map Ln.cut) := by
        unfold Hid smallLn
        rw [List.take_of_length_le (i := 10) (by omega), List.take_of_length_le (i := i) (by omega)]
        exact ⟨by simp; omega, rfl⟩
      have HHn := HN.out
      go_wp2_with fail
      go_ret
      refine ⟨_, rfl, ?_⟩
      rw [HE.out.1, HE.out.2]
      exact hsr
end Go.Proofs.Ytlejhnigbmgbpaa
