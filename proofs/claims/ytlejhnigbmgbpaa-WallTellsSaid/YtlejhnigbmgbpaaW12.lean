import Derived.Test.YtlejhnigbmgbpaaW11
namespace Go.Proofs.Ytlejhnigbmgbpaa
open Go.RowKit Go.Lamp

def releaseM (cubs : List Cub) (n : Int) : (Int × Int) × List Cub := if fullM cubs n then (((orderM cubs n).1, 0), cubs.set n.toNat Cub.bare) else ((0, 7), cubs)
theorem Cub.bare_ok : Cub.bare.Ok := ⟨List.Pairwise.nil, by simp [Cub.bare], by simp [Cub.bare], fun _ => rfl⟩
theorem releaseM_ok {cubs : List Cub} (h : WallOk cubs) (n : Int) : WallOk (releaseM cubs n).2 := by
  unfold releaseM
  split
  · exact h.set _ Cub.bare_ok
  · exact h

set_option maxHeartbeats 400000 in
theorem Release_calls {W w : World} {p : Nat} {cubs : List Cub} {R : HProp} (n : Int) (hs : Sat W w (WallH p cubs * R)) :
    Calls Try.prog 12 #[.pointer (some ⟨p, 0, none⟩), .int .i64 n] w (WallPost W p R (releaseM cubs n).2 (.tuple #[.int .u32 (releaseM cubs n).1.1, .int .i64 (releaseM cubs n).1.2])) := by
  have HC := Lib.hid (Full_calls n hs)
  unfold releaseM
  cases hf : fullM cubs n with
  | false =>
    rw [hf] at HC
    simp only [Bool.false_eq_true, if_false]
    clear hf
    go_enter Try.func12, Try.ntmps12
    go_wp2_with fail
    refine HC.out.mono ?_
    rintro e w' ⟨rfl, rfl⟩
    go_wp2_with fail
    go_ret2
    exact ⟨rfl, hs⟩
  | true =>
    rw [hf] at HC
    simp only [if_true]
    obtain ⟨bl, gs, rfl, hok, hb⟩ := WallH.open hs
    have h1 := WallB.top hb
    have hat := WallB.at hb
    have hl : gs.length ≤ 16 := by simpa using hok.2.1
    have hfull := hf
    unfold fullM at hfull
    cases hh : heldAt (gs.map (·.1)) n with
    | none => rw [hh] at hfull; cases hfull
    | some c =>
      rw [hh] at hfull
      obtain ⟨k, hk, rfl, rfl, hheld⟩ := heldG hh
      have HO : Hid (orderM (gs.map (·.1)) k = (gs[k].1.order, true)) := by unfold Hid orderM; rw [hh]
      obtain ⟨hc0, hc1, hc2⟩ := hat k (by simpa using hk)
      have hne : gs[k].1.needs = [] := by simpa using hfull
      have hb' := hb
      rw [WallB.split hk] at hb'
      have hz := ((hb'.eq (star_assoc _ _ _)).right).row_nil 50 3
      have HZ := Lib.hid hz
      have hrow := WallB.row hb
      have hf0 : ∀ j, w.frozen? ⟨bl, j, none⟩ = false := fun j => hrow.free
      have f0 := hf0 (k * 3)
      have f1 := hf0 (k * 3 + 1)
      have f2 := hf0 (k * 3 + 2)
      have HOk := Lib.hid hok
      have HK := Lib.hid hk
      have k1 : (k : Int) < gs.length := by omega
      have k2 : (0 : Int) ≤ k := by omega
      clear hs hb hb' hat hh hheld hf hfull hne hz hrow hok hf0
      rw [HO.out]
      go_enter Try.func12, Try.ntmps12
      go_wp2_with fail
      refine HC.out.mono ?_
      rintro e w' ⟨rfl, rfl⟩
      go_wp2_with fail
      go_ret2
      refine ⟨rfl, ?_⟩
      have hz2 : Sat W w (blk bl (.cells (flat CubG.cells gs).toArray 72 (0, 0)) * (Row 50 3 (.slice none 0 0) 0 [] * (bigs ((gs.map cubRow).eraseIdx k) * (blk p (.cells #[.slice (some ⟨bl, 0, none⟩) gs.length gs.length] 66 (0, 0)) * R)))) := HZ.out.eq (by unfold WallRest; ac_rfl)
      have hz3 := (((hz2.setCell (i := k * 3) (.bool false)).setCell (i := k * 3 + 1) (.int .u32 0)).setCell (i := k * 3 + 2) (.slice none 0 0))
      have e3 : (((flat CubG.cells gs).toArray.setIfInBounds (k * 3) (.bool false)).setIfInBounds (k * 3 + 1) (.int .u32 0)).setIfInBounds (k * 3 + 2) (.slice none 0 0) = (flat CubG.cells (gs.set k (Cub.bare, Option.none, 0))).toArray := by
        rw [← flat_set3 CubG.cells_length gs k hk (.bool false) (.int .u32 0) (.slice none 0 0) (Cub.bare, Option.none, 0) rfl]
        simp
      rw [e3] at hz3
      refine WallH.shut (bl := bl) (gs := gs.set k (Cub.bare, Option.none, 0)) ?_ (by rw [List.map_set]; rfl) (HOk.out.set _ Cub.bare_ok)
      exact WallB.of_parts hk _ (v := .slice none 0 0) rfl (hz3.eq (by rw [star_left_comm]; simp only [Cub.bare, List.length_nil, flat_nil]; ac_rfl))

theorem Try.infoCubby : (Try.prog.info? 72).map (fun i => (i.zero, i.size, i.bytes)) = some (some (.agg #[.bool false, .int .u32 0, .slice none 0 0]), 3, 32) := by kernel_rfl

theorem made_flat {α : Type} {f : α → List Value} {s : Nat} (hf : ∀ a, (f a).length = s) (hs : 0 < s) (x : α) (z : Array Value) (hz : z.toList = f x) (m : Nat) : madeCells z (m * s) = (flat f (List.replicate m x)).toArray := by
  have hsz : z.size = s := by rw [← Array.length_toList, hz, hf]
  apply Array.ext'
  apply List.ext_getElem?
  intro j
  rcases Nat.lt_or_ge j (m * s) with hj | hj
  · have hk : j / s < m := (Nat.div_lt_iff_lt_mul hs).2 hj
    have hr : j % s < s := Nat.mod_lt _ hs
    have h2 := flat_get hf (List.replicate m x) (j / s) (j % s) (by simpa using hk) hr
    rw [Nat.div_add_mod' j s] at h2
    have h3 : (flat f (List.replicate m x)).toArray.toList[j]? = (f x)[j % s]? := by simpa using h2
    rw [h3]
    have h4 : j % s < z.size := by omega
    simp only [madeCells, hsz]
    rw [Array.getElem?_toList, Array.getElem?_map, Array.getElem?_range, if_pos hj, Option.map_some, ← hz, Array.getElem?_toList, getElem!_pos z _ h4, Array.getElem?_eq_getElem h4]
  · rw [List.getElem?_eq_none (by simp [madeCells]; omega), List.getElem?_eq_none (by simp [flat_length hf]; omega)]

def newM (n : Int) : List Cub := List.replicate (min (max n 1) 16).toNat Cub.bare
theorem newM_ok (n : Int) : WallOk (newM n) := by
  unfold newM WallOk
  refine ⟨by simp; omega, by simp; omega, fun c hc => ?_⟩
  rw [List.eq_of_mem_replicate hc]
  exact Cub.bare_ok

/-- A new wall comes back. -/
def NewPost (W : World) (R : HProp) (cubs : List Cub) (en : Ending) (w' : World) : Prop :=
  ∃ p, en = .returned (.pointer (some ⟨p, 0, none⟩)) ∧ Sat W w' (WallH p cubs * R)

theorem bigs_bare {W w : World} {R : HProp} (h : Sat W w R) (m : Nat) : Sat W w (bigs ((List.replicate m ((Cub.bare, Option.none, 0) : CubG)).map cubRow) * R) := by
  induction m with
  | zero => simpa [bigs_nil, emp_star] using h
  | succ m ih =>
    rw [List.replicate_succ, List.map_cons, bigs_cons, star_assoc]
    exact ih.row_nil _ _

set_option maxRecDepth 100000 in
set_option maxHeartbeats 400000 in
theorem New_calls {W w : World} {R : HProp} (n : Int) (hs : Sat W w R) :
    Calls Try.prog 10 #[.int .i64 n] w (NewPost W R (newM n)) := by
  obtain ⟨i0, hi, hz0, hz1, hz2⟩ := info_parts Try.infoCubby
  obtain ⟨m, hm, h1, h16⟩ : ∃ m : Nat, (m : Int) = min (max n 1) 16 ∧ 1 ≤ m ∧ m ≤ 16 := ⟨(min (max n 1) 16).toNat, by omega, by omega, by omega⟩
  have hmk : ∀ w, (Instr.makeSlice 64 (.int .i64 m) (.int .i64 m)).run Try.prog w = .ok (.slice (some ⟨w.heap.size, 0, none⟩) m m) (w.alloc (.cells (flat CubG.cells (List.replicate m (Cub.bare, Option.none, 0))).toArray 72)) := fun w => by
    have := run_make (P := Try.prog) w 64 72 i0 _ Try.underlying64 hi hz0 .i64 .i64 (m : Int) (m : Int) (by omega) (by omega) (by rw [hz2]; omega) (by omega)
    rw [this, hz1, Int.toNat_natCast, made_flat CubG.cells_length (by omega) (Cub.bare, Option.none, 0) (Value.agg #[.bool false, .int .u32 0, .slice none 0 0]).cells rfl]
  have hM : Hid (newM n = (List.replicate m ((Cub.bare, Option.none, 0) : CubG)).map (·.1)) := by unfold Hid newM; rw [← hm, Int.toNat_natCast, List.map_replicate]
  have hfin : ∀ q, Hid (Sat W ((w.alloc (.cells (flat CubG.cells (List.replicate m (Cub.bare, Option.none, 0))).toArray 72)).alloc (.cells #[.slice (some ⟨w.heap.size, 0, none⟩) m m] 66)) (WallH (w.heap.size + 1) (newM n) * R) ∨ q) := fun q => .inl (by
    have h2 := ((bigs_bare hs m).alloc (.cells (flat CubG.cells (List.replicate m (Cub.bare, Option.none, 0))).toArray 72)).alloc (.cells #[.slice (some ⟨w.heap.size, 0, none⟩) m m] 66)
    refine WallH.shut (bl := w.heap.size) (gs := List.replicate m (Cub.bare, Option.none, 0)) (h2.eq ?_) hM.out.symm (newM_ok n)
    unfold WallB Cubs
    rw [List.length_replicate, show (w.alloc (.cells (flat CubG.cells (List.replicate m (Cub.bare, Option.none, 0))).toArray 72)).heap.size = w.heap.size + 1 by simp]
    ac_rfl)
  clear hi hz0 hz1 hz2 hM
  rcases Int.lt_or_le n 1 with hn | hn
  · obtain rfl : m = 1 := by omega
    have hmk1 : ∀ w, (Instr.makeSlice 64 (.int .i64 1) (.int .i64 1)).run Try.prog w = .ok (.slice (some ⟨w.heap.size, 0, none⟩) 1 1) (w.alloc (.cells (flat CubG.cells (List.replicate 1 (Cub.bare, Option.none, 0))).toArray 72)) := hmk
    clear hm h1 h16 hmk
    go_enter Try.func10, Try.ntmps10
    go_wp2_with fail
    go_ret
    exact ⟨_, rfl, (hfin False).out.resolve_right id⟩
  · rcases Int.lt_or_le 16 n with hn2 | hn2
    · obtain rfl : m = 16 := by omega
      have hmk1 : ∀ w, (Instr.makeSlice 64 (.int .i64 16) (.int .i64 16)).run Try.prog w = .ok (.slice (some ⟨w.heap.size, 0, none⟩) 16 16) (w.alloc (.cells (flat CubG.cells (List.replicate 16 (Cub.bare, Option.none, 0))).toArray 72)) := hmk
      clear hm h1 h16 hmk
      go_enter Try.func10, Try.ntmps10
      go_wp2_with fail
      go_ret
      exact ⟨_, rfl, (hfin False).out.resolve_right id⟩
    · obtain rfl : n = m := by omega
      clear hm
      go_enter Try.func10, Try.ntmps10
      go_wp2_with fail
      go_ret
      exact ⟨_, rfl, (hfin False).out.resolve_right id⟩
end Go.Proofs.Ytlejhnigbmgbpaa
