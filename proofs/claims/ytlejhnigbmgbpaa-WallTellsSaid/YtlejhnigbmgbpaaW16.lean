import Derived.Test.YtlejhnigbmgbpaaW15
namespace Go.Proofs.Ytlejhnigbmgbpaa
open Go.RowKit Go.Lamp

set_option maxRecDepth 100000 in
set_option maxHeartbeats 1000000 in
theorem insertion_nil (w : World) :
    Calls Try.prog 57 #[.slice none 0 0, .int .i64 0, .int .i64 0, .func (.func 43) #[] #[]] w fun e w' => e = .returned (.tuple #[]) ∧ w = w' := by
  go_enter Try.func57, Try.ntmps57
  go_wp2_with fail
  go_loopw [8, 9] (fun vi _ wr => vi = .int .i64 1 ∧ w = wr) (fun _ _ _ => 0)
  case atStart => exact ⟨rfl, rfl⟩
  case round =>
    obtain ⟨rfl, rfl⟩ := hrel
    go_wp2_with fail
    go_end0
    exact ⟨rfl, rfl⟩

set_option maxRecDepth 100000 in
set_option maxHeartbeats 1000000 in
theorem pdq_any (a : Option Addr) (cap n : Nat) (r : Int) (w : World) (hn : n ≤ 12) (Φ : World → Prop)
    (h : Calls Try.prog 57 #[.slice a n cap, .int .i64 0, .int .i64 n, .func (.func 43) #[] #[]] w fun e w' => e = .returned (.tuple #[]) ∧ Φ w') :
    Calls Try.prog 55 #[.slice a n cap, .int .i64 0, .int .i64 n, .int .i64 r, .func (.func 43) #[] #[]] w fun e w' => e = .returned (.tuple #[]) ∧ Φ w' := by
  have H := Lib.hid h
  clear h
  have h1 : (n : Int) ≤ 12 := by omega
  go_enter Try.func55, Try.ntmps55
  go_wp2_with fail
  refine wp_loop_rounds 1 ?_
  rw [rounds_succ]
  go_wp2_with fail
  refine H.out.mono ?_
  rintro e w1 ⟨rfl, hw1⟩
  go_wp2_with fail
  refine bodyPost_ret (results_none rfl _ _ _) rfl ?_
  exact ⟨rfl, hw1⟩

set_option maxRecDepth 100000 in
set_option maxHeartbeats 1000000 in
theorem sortFunc_any (a : Option Addr) (cap n : Nat) (w : World) (hn : n ≤ 12) (Φ : World → Prop)
    (h : Calls Try.prog 57 #[.slice a n cap, .int .i64 0, .int .i64 n, .func (.func 43) #[] #[]] w fun e w' => e = .returned (.tuple #[]) ∧ Φ w') :
    Calls Try.prog 51 #[.slice a n cap, .func (.func 43) #[] #[]] w fun e w' => e = .returned (.tuple #[]) ∧ Φ w' := by
  have H := fun r => Lib.hid (pdq_any a cap n r w hn Φ h)
  have HH := Lib.hid H
  clear h H
  have h1 : (n : Int) < 256 := by omega
  have h2 : (0 : Int) ≤ n := by omega
  go_enter Try.func51, Try.ntmps51
  go_wp2_with fail
  refine (len_calls _ _ h2 h1).mono ?_
  rintro e w1 ⟨⟨r, rfl⟩, rfl⟩
  go_wp2_with fail
  refine (HH.out r).out.mono ?_
  rintro e w1 ⟨rfl, hw1⟩
  go_wp2_with fail
  go_end0
  exact ⟨rfl, hw1⟩

set_option maxRecDepth 100000 in
set_option maxHeartbeats 1000000 in
theorem collect_any (gf : Nat) (lb : Array Value) (Φ : Value → World → Prop) (w : World)
    (h : Calls Try.prog 54 #[.slice none 0 0, .func (.func gf) #[] lb] w fun e w' => ∃ v, e = .returned v ∧ Φ v w') :
    Calls Try.prog 50 #[.func (.func gf) #[] lb] w fun e w' => ∃ v, e = .returned v ∧ Φ v w' := by
  have H := Lib.hid h
  clear h
  go_enter Try.func50, Try.ntmps50
  go_wp2_with fail
  refine H.out.mono ?_
  rintro e w1 ⟨v, rfl, hw1⟩
  go_wp2_with fail
  go_ret
  exact ⟨v, rfl, hw1⟩

/-- Lines that came back out of a sorting: a new row, in order. -/
def SortedOut (W : World) (R : HProp) (ls : List Ln) (en : Ending) (w' : World) : Prop :=
  ∃ (v : Value) (ls' : List Ln), en = .returned v ∧ ls'.Perm ls ∧ ls'.Pairwise (fun a b => a.item ≤ b.item) ∧ Sat W w' (Row 50 3 v ls.length (flat Ln.cells ls') * R) ∧ (v = .slice none 0 0 ↔ ls = [])

theorem Sat.of_owns {W w w' : World} {R : HProp} {e size n : Nat} {v : Value} {xs : List Value} (h : Sat W w R) (hb : Below w.heap.size w w') (ho : w'.ownsRow w.heap.size e size v n xs) : Sat W w' (Row e size v n xs * R) := by
  have hl := ho.1
  rcases ho.2 with ⟨rfl, rfl⟩ | ⟨g, cap, cur, rfl, hg, hgg, h1, h2, h3, h4⟩
  · have hx : xs = [] := List.eq_nil_of_length_eq_zero (by simpa using hl)
    subst hx
    exact (h.below hb).row_nil _ _
  · rw [← h4]
    exact (h.fresh hb.os hb.tape hb.output hb.block hg hgg).row_mk h1 h2 h3

theorem enters_values1 : Enters Try.prog 52 := entersOf Try.func52 (by kernel_rfl) (by kernel_rfl)

set_option maxRecDepth 100000 in
set_option maxHeartbeats 1000000 in
theorem sortedFunc_calls {W w : World} {R : HProp} (Bs : Nat) (sv : Value) (ls : List Ln) (hn : ls.length ≤ 12) (hs : Sat W w R) (hc : w.cell? ⟨Bs, 0, none⟩ = some sv) (hI : LnsBelow w.heap.size w sv ls) :
    Calls Try.prog 41 #[.func (.func 52) #[] #[.pointer (some ⟨Bs, 0, none⟩)], .func (.func 43) #[] #[]] w (SortedOut W R ls) := by
  have hlt := World.block_lt_of_cell? w _ hc
  simp only at hlt
  have hap := callsIn_wide.1 (appendSeq_in 4 (by omega) 52 #[.pointer (some ⟨Bs, 0, none⟩)] (fun ys => ys = ls) ls.length (by omega) w enters_values1
    (fun W1 hW1 => values_stops 3 (by omega) Bs w.heap.size sv ls (by omega) W1 hlt hW1.size ((hW1.cell (p := ⟨Bs, 0, none⟩) hlt).trans hc) (hI.below hW1)))
  have hcol := collect_any 52 #[.pointer (some ⟨Bs, 0, none⟩)] (fun v w' => Sat W w' (Row 50 3 v ls.length (flat Ln.cells ls) * R) ∧ (v = .slice none 0 0 ↔ ls = [])) w (hap.mono (by
    rintro e w' ⟨xs, v, rfl, rfl, ho, hnil, hb⟩
    exact ⟨v, rfl, Sat.of_owns hs hb ho, hnil⟩))
  have HC := Lib.hid hcol
  have HN := Lib.hid hn
  clear hap hcol hc hI hlt hs hn
  go_enter Try.func41, Try.ntmps41
  go_wp2_with fail
  refine HC.out.mono ?_
  rintro e w1 ⟨v, rfl, hs1, hnil⟩
  have HNil := Lib.hid hnil
  clear hnil
  rcases hs1.row_cases with ⟨rfl, h0, hx, hr⟩ | ⟨g, cap, cur, rfl, h1, h2, h3, h4, hb⟩
  · have hz : ls = [] := List.eq_nil_of_length_eq_zero h0
    subst hz
    go_wp2_with fail
    refine (sortFunc_any Option.none 0 0 w1 (by omega) (fun w' => w1 = w') (insertion_nil w1)).mono ?_
    rintro e w2 ⟨rfl, rfl⟩
    go_wp2_with fail
    go_ret
    exact ⟨.slice none 0 0, [], rfl, List.Perm.refl _, List.Pairwise.nil, hs1, ⟨fun _ => rfl, fun _ => rfl⟩⟩
  · have HS := Lib.hid (sortFunc_any (some ⟨g, 0, Option.none⟩) cap ls.length w1 HN.out _ (insertion_calls g cap ls cur HN.out h1 h2 h3 h4 hb))
    clear h1 h2 h3 h4 hb hs1
    go_wp2_with fail
    refine HS.out.mono ?_
    rintro e w2 ⟨rfl, ls', hperm, hpw, hs2⟩
    have HS2 := Lib.hid hs2
    clear hs2
    go_wp2_with fail
    go_ret
    exact ⟨_, ls', rfl, hperm, hpw, HS2.out, HNil.out⟩
end Go.Proofs.Ytlejhnigbmgbpaa
