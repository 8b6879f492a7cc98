import Derived.Test.YtlejhnigbmgbpaaW31
import Derived.Deep.QuietTactic
import Derived.BigQuiet
namespace Go.Lamp
open Go.RowKit
theorem Sat.row_slice {W w : World} {R : HProp} {e size n : Nat} {v : Value} {xs : List Value} (h : Sat W w (Row e size v n xs * R)) :
    ∃ a cap, v = .slice a n cap ∧ n ≤ cap ∧ cap ≤ maxLen ∧ (n = 0 ∨ ∃ b, a = some ⟨b, 0, none⟩ ∧ ∀ j, j < n * size → w.cell? ⟨b, j, none⟩ = xs[j]?) := by
  obtain ⟨b, cap, hv, h1, h2, h3⟩ := h.row_cell
  rcases hv with rfl | ⟨rfl, rfl, rfl⟩
  · exact ⟨_, cap, rfl, h1, h2, .inr ⟨b, rfl, h3⟩⟩
  · exact ⟨none, 0, rfl, h1, h2, .inl rfl⟩
theorem find_at {α : Type} {l : List α} {p : α → Bool} {k : Nat} (hk : k < l.length) (h : ∀ j (hj : j < l.length), j < k → p l[j] = false) (hp : p l[k] = true) : l.find? p = some l[k] := by
  rw [List.find?_eq_some_iff_getElem]
  exact ⟨hp, k, hk, rfl, fun j hj => by simp [h j (by omega) hj]⟩
theorem find_none {α : Type} {l : List α} {p : α → Bool} (h : ∀ j (hj : j < l.length), p l[j] = false) : l.find? p = none := by
  rw [List.find?_eq_none]
  intro x hx
  obtain ⟨j, hj, rfl⟩ := List.getElem_of_mem hx
  simp [h j hj]
end Go.Lamp
namespace Go.Proofs.Ytlejhnigbmgbpaa
open Go.RowKit Go.Lamp

/-! The document's wall in memory. -/
def Bounded (r : Ref) : Prop := r.ps.length ≤ 100 ∧ r.ds.length ≤ 1000
abbrev PlR (v : Value) (ps : List Pl) : HProp := Row 79 2 v ps.length (flat Pl.cells ps)
abbrev NdR (v : Value) (ds : List Nd) : HProp := Row 81 4 v ds.length (flat Nd.cells ds)
abbrev RefS (q n : Nat) (pv lv : Value) : HProp := blk q (.cells #[.int .i64 n, pv, lv] 61 (0, 0))
def RefH (q n : Nat) (r : Ref) : HProp := hex fun pv => hex fun lv => RefS q n pv lv * (PlR pv r.ps * NdR lv r.ds)
def PlAt (w : World) (b : Nat) (ps : List Pl) : Prop := ∀ k (hk : k < ps.length), w.cell? ⟨b, k * 2, none⟩ = some (.int .i64 ps[k].cubby) ∧ w.cell? ⟨b, k * 2 + 1, none⟩ = some (.int .u32 ps[k].order)
def NdAt (w : World) (b : Nat) (ds : List Nd) : Prop := ∀ k (hk : k < ds.length), w.cell? ⟨b, k * 4, none⟩ = some (.int .i64 ds[k].cubby) ∧ w.cell? ⟨b, k * 4 + 1, none⟩ = some (.int .u16 ds[k].line.item) ∧ w.cell? ⟨b, k * 4 + 2, none⟩ = some (.int .u16 ds[k].line.loc) ∧ w.cell? ⟨b, k * 4 + 3, none⟩ = some (.int .i64 ds[k].line.qty)
section
variable {W w : World} {q n : Nat} {r : Ref} {R : HProp}
theorem RefH.shut {pv lv : Value} (h : Sat W w (RefS q n pv lv * (PlR pv r.ps * (NdR lv r.ds * R)))) : Sat W w (RefH q n r * R) := by
  unfold RefH
  rw [Sat.hex_iff]; refine ⟨pv, ?_⟩
  rw [Sat.hex_iff]; refine ⟨lv, ?_⟩
  exact h.eq (by ac_rfl)
theorem PlAt.of_row {v : Value} {ps : List Pl} (h : Sat W w (PlR v ps * R)) : ∃ a c, v = .slice a ps.length c ∧ ps.length ≤ c ∧ c ≤ maxLen ∧ (ps.length = 0 ∨ ∃ b, a = some ⟨b, 0, none⟩ ∧ PlAt w b ps) := by
  obtain ⟨a, c, h1, h2, h3, h4⟩ := h.row_slice
  refine ⟨a, c, h1, h2, h3, ?_⟩
  rcases h4 with h0 | ⟨b, h0, hc⟩
  · exact .inl h0
  · refine .inr ⟨b, h0, fun k hk => ⟨?_, ?_⟩⟩
    · rw [hc _ (by omega)]; have := flat_get Pl.cells_length ps k 0 hk (by omega); simpa [Pl.cells] using this
    · rw [hc _ (by omega)]; have := flat_get Pl.cells_length ps k 1 hk (by omega); simpa [Pl.cells] using this
theorem NdAt.of_row {v : Value} {ds : List Nd} (h : Sat W w (NdR v ds * R)) : ∃ a c, v = .slice a ds.length c ∧ ds.length ≤ c ∧ c ≤ maxLen ∧ (ds.length = 0 ∨ ∃ b, a = some ⟨b, 0, none⟩ ∧ NdAt w b ds) := by
  obtain ⟨a, c, h1, h2, h3, h4⟩ := h.row_slice
  refine ⟨a, c, h1, h2, h3, ?_⟩
  rcases h4 with h0 | ⟨b, h0, hc⟩
  · exact .inl h0
  · refine .inr ⟨b, h0, fun k hk => ⟨?_, ?_, ?_, ?_⟩⟩
    · rw [hc _ (by omega)]; have := flat_get Nd.cells_length ds k 0 hk (by omega); simpa [Nd.cells] using this
    · rw [hc _ (by omega)]; have := flat_get Nd.cells_length ds k 1 hk (by omega); simpa [Nd.cells] using this
    · rw [hc _ (by omega)]; have := flat_get Nd.cells_length ds k 2 hk (by omega); simpa [Nd.cells] using this
    · rw [hc _ (by omega)]; have := flat_get Nd.cells_length ds k 3 hk (by omega); simpa [Nd.cells] using this
theorem RefH.open (h : Sat W w (RefH q n r * R)) : ∃ pa pc la lc, Sat W w (RefS q n (.slice pa r.ps.length pc) (.slice la r.ds.length lc) * (PlR (.slice pa r.ps.length pc) r.ps * (NdR (.slice la r.ds.length lc) r.ds * R))) ∧
    w.cell? ⟨q, 0, none⟩ = some (.int .i64 n) ∧ w.cell? ⟨q, 1, none⟩ = some (.slice pa r.ps.length pc) ∧ w.cell? ⟨q, 2, none⟩ = some (.slice la r.ds.length lc) ∧
    (r.ps.length = 0 ∨ ∃ b, pa = some ⟨b, 0, none⟩ ∧ PlAt w b r.ps) ∧ (r.ds.length = 0 ∨ ∃ b, la = some ⟨b, 0, none⟩ ∧ NdAt w b r.ds) := by
  unfold RefH at h
  rw [Sat.hex_iff] at h
  obtain ⟨pv, h⟩ := h
  rw [Sat.hex_iff] at h
  obtain ⟨lv, h⟩ := h
  have h1 : Sat W w (RefS q n pv lv * (PlR pv r.ps * (NdR lv r.ds * R))) := h.eq (by ac_rfl)
  obtain ⟨pa, pc, rfl, _, _, hp⟩ := PlAt.of_row h1.right
  obtain ⟨la, lc, rfl, _, _, hd⟩ := NdAt.of_row h1.right.right
  exact ⟨pa, pc, la, lc, h1, h1.cellAt (i := 0) rfl, h1.cellAt (i := 1) rfl, h1.cellAt (i := 2) rfl, hp, hd⟩

theorem cubbyR_at {order : Int} {k : Nat} (hk : k < r.ps.length) (h : ∀ j (hj : j < r.ps.length), j < k → (r.ps[j].order == order) = false) (hp : (r.ps[k].order == order) = true) : cubbyR r order = r.ps[k].cubby := by
  unfold cubbyR; rw [find_at hk h hp]
theorem cubbyR_none {order : Int} (h : ∀ j (hj : j < r.ps.length), (r.ps[j].order == order) = false) : cubbyR r order = -1 := by
  unfold cubbyR; rw [find_none h]
theorem orderR_at {c : Int} {k : Nat} (hk : k < r.ps.length) (h : ∀ j (hj : j < r.ps.length), j < k → (r.ps[j].cubby == c) = false) (hp : (r.ps[k].cubby == c) = true) : orderR r c = (r.ps[k].order, true) := by
  unfold orderR; rw [find_at hk h hp]
theorem orderR_none {c : Int} (h : ∀ j (hj : j < r.ps.length), (r.ps[j].cubby == c) = false) : orderR r c = (0, false) := by
  unfold orderR; rw [find_none h]

set_option maxHeartbeats 400000 in
theorem rcubby_calls (order : Int) (hb : Bounded r) (hs : Sat W w (RefH q n r * R)) :
    Calls Try.prog 27 #[.pointer (some ⟨q, 0, none⟩), .int .u32 order] w fun e w' => e = .returned (.int .i64 (cubbyR r order)) ∧ w = w' := by
  obtain ⟨pa, pc, la, lc, _, t0, t1, t2, hp, _⟩ := RefH.open hs
  have HP := Lib.hid hp
  have hlen : r.ps.length ≤ 100 := hb.1
  clear hs hb hp
  go_enter Try.func27, Try.ntmps27
  go_wp2_with fail
  go_loop [5] (fun vi => ∃ i : Nat, i ≤ r.ps.length ∧ vi = .int .i64 i ∧ (∀ j (hj : j < r.ps.length), j < i → (r.ps[j].order == order) = false)) (fun vi => (r.ps.length - intOf vi).toNat)
  case atStart => exact ⟨0, Nat.zero_le _, rfl, fun j hj h => by omega⟩
  case round =>
    obtain ⟨i, hi, rfl, hno⟩ := hrel
    have HNo := Lib.hid hno
    clear hno
    by_cases hlt : i < r.ps.length
    · rcases HP.out with h0 | ⟨b, rfl, hat⟩
      · omega
      · obtain ⟨c0, c1⟩ := hat i hlt
        clear hat
        cases hob : r.ps[i].order == order
        · have HOb := Lib.hid hob
          go_wp2_with fail
          clear hob
          go_round
          case rel =>
            refine ⟨i + 1, by omega, by go_num, fun j hj h => ?_⟩
            rcases Nat.lt_or_ge j i with h2 | h2
            · exact HNo.out j hj h2
            · have : j = i := by omega
              subst this; exact HOb.out
          case measure => simp [intOf]; omega
        · have HOb := Lib.hid hob
          go_wp2_with fail
          go_ret
          exact ⟨ret1 (val_int (cubbyR_at hlt HNo.out HOb.out).symm), rfl⟩
    · go_wp2_with fail
      go_ret
      exact ⟨ret1 (val_int (cubbyR_none fun j hj => HNo.out j hj (by omega)).symm), rfl⟩

set_option maxHeartbeats 400000 in
theorem rorder_calls (c : Int) (hb : Bounded r) (hs : Sat W w (RefH q n r * R)) :
    Calls Try.prog 28 #[.pointer (some ⟨q, 0, none⟩), .int .i64 c] w fun e w' => e = .returned (.tuple #[.int .u32 (orderR r c).1, .bool (orderR r c).2]) ∧ w = w' := by
  obtain ⟨pa, pc, la, lc, _, t0, t1, t2, hp, _⟩ := RefH.open hs
  have HP := Lib.hid hp
  have hlen : r.ps.length ≤ 100 := hb.1
  clear hs hb hp
  go_enter Try.func28, Try.ntmps28
  go_wp2_with fail
  go_loop [6] (fun vi => ∃ i : Nat, i ≤ r.ps.length ∧ vi = .int .i64 i ∧ (∀ j (hj : j < r.ps.length), j < i → (r.ps[j].cubby == c) = false)) (fun vi => (r.ps.length - intOf vi).toNat)
  case atStart => exact ⟨0, Nat.zero_le _, rfl, fun j hj h => by omega⟩
  case round =>
    obtain ⟨i, hi, rfl, hno⟩ := hrel
    have HNo := Lib.hid hno
    clear hno
    by_cases hlt : i < r.ps.length
    · rcases HP.out with h0 | ⟨b, rfl, hat⟩
      · omega
      · obtain ⟨c0, c1⟩ := hat i hlt
        clear hat
        cases hob : r.ps[i].cubby == c
        · have HOb := Lib.hid hob
          go_wp2_with fail
          clear hob
          go_round
          case rel =>
            refine ⟨i + 1, by omega, by go_num, fun j hj h => ?_⟩
            rcases Nat.lt_or_ge j i with h2 | h2
            · exact HNo.out j hj h2
            · have : j = i := by omega
              subst this; exact HOb.out
          case measure => simp [intOf]; omega
        · have HOb := Lib.hid hob
          go_wp2_with fail
          go_ret2
          rw [orderR_at hlt HNo.out HOb.out]
          exact ⟨rfl, rfl⟩
    · go_wp2_with fail
      go_ret2
      rw [orderR_none fun j hj => HNo.out j hj (by omega)]
      exact ⟨rfl, rfl⟩

theorem fullR_at {c : Int} {k : Nat} (hk : k < r.ds.length) (hp : (r.ds[k].cubby == c) = true) : fullR r c = false := by
  unfold fullR
  have : r.ds.all (fun d => d.cubby != c) = false := by
    rw [Bool.eq_false_iff]
    intro h
    rw [List.all_eq_true] at h
    have := h _ (List.getElem_mem hk)
    simp at this hp
    exact this hp
  rw [this, Bool.and_false]
theorem fullR_end {c : Int} (h : ∀ j (hj : j < r.ds.length), (r.ds[j].cubby == c) = false) : fullR r c = (orderR r c).2 := by
  unfold fullR
  have : r.ds.all (fun d => d.cubby != c) = true := by
    rw [List.all_eq_true]
    intro d hd
    obtain ⟨j, hj, rfl⟩ := List.getElem_of_mem hd
    have := h j hj
    simpa using this
  rw [this, Bool.and_true]

set_option maxHeartbeats 400000 in
theorem rfull_calls (c : Int) (hb : Bounded r) (hs : Sat W w (RefH q n r * R)) :
    Calls Try.prog 31 #[.pointer (some ⟨q, 0, none⟩), .int .i64 c] w fun e w' => e = .returned (.bool (fullR r c)) ∧ w = w' := by
  have HC := Lib.hid (rorder_calls c hb hs)
  obtain ⟨pa, pc, la, lc, _, t0, t1, t2, _, hd⟩ := RefH.open hs
  have HD := Lib.hid hd
  have hlen : r.ds.length ≤ 1000 := hb.2
  clear hs hb hd
  go_enter Try.func31, Try.ntmps31
  go_wp2_with fail
  refine HC.out.mono ?_
  rintro e w' ⟨rfl, rfl⟩
  go_wp2_with fail
  go_loop [7] (fun vi => ∃ i : Nat, i ≤ r.ds.length ∧ vi = .int .i64 i ∧ (∀ j (hj : j < r.ds.length), j < i → (r.ds[j].cubby == c) = false)) (fun vi => (r.ds.length - intOf vi).toNat)
  case atStart => exact ⟨0, Nat.zero_le _, rfl, fun j hj h => by omega⟩
  case round =>
    obtain ⟨i, hi, rfl, hno⟩ := hrel
    have HNo := Lib.hid hno
    clear hno
    by_cases hlt : i < r.ds.length
    · rcases HD.out with h0 | ⟨b, rfl, hat⟩
      · omega
      · obtain ⟨c0, c1, c2, c3⟩ := hat i hlt
        clear hat
        cases hob : r.ds[i].cubby == c
        · have HOb := Lib.hid hob
          go_wp2_with fail
          clear hob
          go_round
          case rel =>
            refine ⟨i + 1, by omega, by go_num, fun j hj h => ?_⟩
            rcases Nat.lt_or_ge j i with h2 | h2
            · exact HNo.out j hj h2
            · have : j = i := by omega
              subst this; exact HOb.out
          case measure => simp [intOf]; omega
        · have HOb := Lib.hid hob
          go_wp2_with fail
          go_ret
          exact ⟨ret1 (val_bool (fullR_at hlt HOb.out).symm), rfl⟩
    · go_wp2_with fail
      go_ret
      exact ⟨ret1 (val_bool (fullR_end fun j hj => HNo.out j hj (by omega)).symm), rfl⟩
end
end Go.Proofs.Ytlejhnigbmgbpaa
