import Derived.Test.YtlejhnigbmgbpaaW7
import Derived.StillTailTactics
namespace Go.Proofs.Ytlejhnigbmgbpaa
open Go.RowKit Go.Lamp

/-- What stands in a row behind 'append(s[:i], s[i+1:]...)' and 'clear(s[n-1:n])'. -/
theorem delete_take (cur : List Value) (n i cap : Nat) (hi : i < n) (hcap : n ≤ cap) (hcs : cur.length = cap * 3) (z : List Value) (hz : z.length = 3) :
    let c1 := cur.take (i * 3) ++ (cur.take (n * 3)).drop ((i + 1) * 3) ++ cur.drop (i * 3 + ((cur.take (n * 3)).drop ((i + 1) * 3)).length)
    c1.length = cap * 3 ∧ (c1.take ((n - 1) * 3) ++ z ++ c1.drop ((n - 1) * 3 + 3)).length = cap * 3 ∧
      (c1.take ((n - 1) * 3) ++ z ++ c1.drop ((n - 1) * 3 + 3)).take ((n - 1) * 3) = (cur.take (n * 3)).take (i * 3) ++ (cur.take (n * 3)).drop ((i + 1) * 3) := by
  intro c1
  have h1 : c1.length = cap * 3 := by simp only [c1, List.length_append, List.length_take, List.length_drop]; omega
  refine ⟨h1, by simp only [List.length_append, List.length_take, List.length_drop, hz]; omega, ?_⟩
  rw [List.append_assoc, List.take_append_of_le_length (by simp only [List.length_take]; omega), List.take_take, Nat.min_self]
  simp only [c1]
  rw [List.take_append_of_le_length (by simp only [List.length_append, List.length_take, List.length_drop]; omega)]
  rw [List.take_of_length_le (by simp only [List.length_append, List.length_take, List.length_drop]; omega)]
  rw [List.take_take, Nat.min_eq_left (by omega)]

theorem Try.zeroLine (w : World) : (zeroValue 50).run Try.prog w = .ok (.agg #[.int .u16 0, .int .u16 0, .int .i64 0]) w := by kernel_rfl

/-- slices.Delete of one line of a row. -/
def Deleted (W : World) (R : HProp) (g cap n : Nat) (ls : List Ln) (en : Ending) (w' : World) : Prop :=
  en = .returned (.slice (some ⟨g, 0, none⟩) n cap) ∧ ∃ cur : Array Value, cur.size = cap * 3 ∧ cur.toList.take (n * 3) = flat Ln.cells ls ∧ Sat W w' (blk g (.cells cur 50 (0, 0)) * R)

theorem slice_if {c : Prop} [Decidable c] {a b : Addr} {n m : Nat} : Value.slice (if c then some a else some b) n m = .slice (some (if c then a else b)) n m := by split <;> rfl

set_option maxRecDepth 100000 in
set_option maxHeartbeats 400000 in
theorem delete_calls {W w : World} {R : HProp} (g cap n i : Nat) (ls : List Ln) (cur : Array Value) (hnl : ls.length = n) (hi : i < n) (hn : n ≤ 64) (hcap : n ≤ cap) (hcs : cur.size = cap * 3)
    (htake : cur.toList.take (n * 3) = flat Ln.cells ls) (hs : Sat W w (blk g (.cells cur 50 (0, 0)) * R)) :
    Calls Try.prog 46 #[.slice (some ⟨g, 0, none⟩) n cap, .int .i64 i, .int .i64 (i + 1)] w (Deleted W R g cap (n - 1) (ls.eraseIdx i)) := by
  obtain ⟨i0, hi0, hz0, hz1, hz2⟩ := info_parts Try.infoLine
  have HI := Lib.hid hi0
  have HZ := Lib.hid hz1
  have b1 : (i : Int) + 1 ≤ n := by omega
  have b2 : (0 : Int) ≤ i := by omega
  have b3 : (i : Int) ≤ cap := by omega
  have b4 : i ≤ cap := by omega
  have b5 : i + 1 ≤ n := by omega
  have b6 : (0 : Int) ≤ i + 1 := by omega
  have b7 : (i : Int) ≤ i + 1 := by omega
  have b8 : (n - 1 : Nat) ≤ cap := by omega
  have hk : ∀ j u, ((cur.toList.take (n * 3)).drop ((i + 1) * 3))[j]? = some u → w.cell? ((if cap = i + 1 then (⟨g, 0, none⟩ : Addr) else ⟨g, (i + 1) * 3, none⟩).add j) = some u := by
    intro j u hu
    have hj := (List.getElem?_eq_some_iff.1 hu).1
    simp only [List.length_drop, List.length_take] at hj
    rw [if_neg (by omega), Addr.mk_add, hs.cell]
    rw [List.getElem?_drop, List.getElem?_take] at hu
    split at hu
    · simpa using hu
    · cases hu
  have hnl' : ((cur.toList.take (n * 3)).drop ((i + 1) * 3)).length = (n - (i + 1)) * 3 := by simp only [List.length_drop, List.length_take, Array.length_toList]; omega
  have HK := Lib.hid hk
  have HNL := Lib.hid hnl'
  have HCS := Lib.hid hcs
  have HT := Lib.hid htake
  have HN := Lib.hid hnl
  clear hk hnl hcs htake hi0 hz0 hz1 hz2
  go_enter Try.func46, Try.ntmps46
  go_wp2_with fail
  go_still_tail 6, (by kernel_rfl)
  change wpList _ _ _ _ _ w.drew
  generalize hv : Value.slice (if cap = i + 1 then some ⟨g, 0, none⟩ else some ⟨g, (i + 1) * 3, none⟩) (n - (i + 1)) (cap - (i + 1)) = v25
  refine wpList_append_room_sat rfl (.tmp 22) (.tmp 25) _ rfl Try.underlying37 HI.out HZ.out rfl hs.drew (hv.symm.trans slice_if) (news := (cur.toList.take (n * 3)).drop ((i + 1) * 3)) HK.out HNL.out ?_ (by omega) HCS.out ?_
  · rw [HT.out]
    intro u hu
    exact Ln.one u (List.mem_of_mem_drop hu)
  intro w1 hs1
  rw [show i + (n - (i + 1)) = n - 1 by omega]
  obtain ⟨q1, q2, q3⟩ := delete_take cur.toList n i cap hi hcap (by simpa using HCS.out) [.int .u16 0, .int .u16 0, .int .i64 0] rfl
  have HQ1 := Lib.hid q1
  have HQ2 := Lib.hid q2
  have HQ3 := Lib.hid q3
  have b9 : ((n - 1 : Nat) : Int) ≤ n := by omega
  have b10 : n - (n - 1) = 1 := by omega
  clear q1 q2 q3 hv hnl'
  go_wp2_with (refine wpList_clear_sat rfl (.tmp 31) 37 rfl Try.underlying37 Try.zeroLine rfl ?_ rfl hs1 ?_ (fun w2 hs2 => ?_))
  case refine_1 =>
    intro u hu
    simp [Value.cells] at hu
    rcases hu with rfl | rfl | rfl <;> rfl
  case refine_2 =>
    have h1 := HQ1.out
    show (n - 1) * 3 + 3 ≤ _
    rw [List.size_toArray, h1]
    omega
  go_ret
  refine ⟨rfl, _, ?_, ?_, hs2⟩
  · exact HQ2.out
  · refine HQ3.out.trans ?_
    rw [HT.out, flat_take Ln.cells_length, flat_drop Ln.cells_length, ← flat_append, ← List.eraseIdx_eq_take_drop_succ]
end Go.Proofs.Ytlejhnigbmgbpaa
