import Derived.Test.YtlejhnigbmgbpaaW4
import Derived.Deep.DeepMust
namespace Go.Lamp
open Go.RowKit
/-- A new row comes back. -/
def RetRow (W : World) (R : HProp) (e size n : Nat) (xs : List Value) (nil : Prop) (en : Ending) (w' : World) : Prop :=
  ∃ v, en = .returned v ∧ Sat W w' (Row e size v n xs * R) ∧ (v = .slice none 0 0 ↔ nil)
theorem Src.mono {w w' : World} {sv : Value} {m : Nat} {news : List Value} (h : Src w sv m news) (hb : Below w.heap.size w w') : Src w' sv m news := by
  rcases h with h | ⟨a, c, rfl, h⟩
  · exact .inl h
  · exact .inr ⟨a, c, rfl, fun j u hu => by
      have := h j u hu
      rw [hb.cell (World.block_lt_of_cell? w _ this)]; exact this⟩
end Go.Lamp
namespace Go.Proofs.Ytlejhnigbmgbpaa
open Go.RowKit Go.Lamp

theorem Try.infoLine : (Try.prog.info? 50).map (fun i => (i.zero, i.size, i.bytes)) = some (some (.agg #[.int .u16 0, .int .u16 0, .int .i64 0]), 3, 16) := by kernel_rfl
theorem append_line {W w : World} {R : HProp} {ops : Array Oper} {rest : List Oper} {o : Oper} {a : Act} {Q : Exit → Act → World → Prop} (hgd : o.guard = none) (s x : Operand)
    (ho : o.op = .call { callee := .builtin .append, args := #[s, x], argTypes := #[37, 37] })
    {v : Value} {n : Nat} {xs : List Value} (hs : a.eval s = v) (hown : Sat W w (Row 50 3 v n xs * R))
    {sv : Value} {m : Nat} {news : List Value} (hx : a.eval x = sv) (hsrc : Src w sv m news) (hl : news.length = m * 3) (h1 : ∀ u ∈ news, u.oneCell' = true) (hn : n + m ≤ 1048576)
    (h : ∀ v' w', Sat W w' (Row 50 3 v' (n + m) (xs ++ news) * R) → (v' = .slice none 0 0 ↔ v = .slice none 0 0 ∧ m = 0) → wpList Try.prog ops Q rest (a.put o.dst v') w') : wpList Try.prog ops Q (o :: rest) a w := by
  obtain ⟨i0, hi, hz0, hz1, hz2⟩ := info_parts Try.infoLine
  exact wpList_append_sat hgd s x _ ho Try.underlying37 hi hz0 hz1 hz2 rfl hs hown hx hsrc hl h1 (by unfold maxLen; omega) (by omega) h

set_option maxHeartbeats 400000 in
theorem clone_line {W w : World} {R : HProp} (b cap n : Nat) (xs : List Value) (hs : Sat W w R) (hsrc : Src w (.slice (some ⟨b, 0, none⟩) n cap) n xs) (hl : xs.length = n * 3) (h1 : ∀ u ∈ xs, u.oneCell' = true) (hn : n ≤ 1048576) :
    Calls Try.prog 38 #[.slice (some ⟨b, 0, none⟩) n cap] w (RetRow W R 50 3 n xs False) := by
  have hnil := fun (w : World) (a : Option Addr) (l c : Nat) => Lib.run_eql_slice_nil (P := Try.prog) w 37 50 a l c 0 0 Try.underlying37
  have HN := Lib.hid hn
  have HL := Lib.hid hl
  have HO := Lib.hid h1
  clear hn hl h1
  go_enter Try.func38, Try.ntmps38
  go_wp2_with (at_builtin; go_must (refine append_line rfl (.tmp 5) (.tmp 6) rfl rfl (W := W) (R := R) (((hs.alloc _).row_mk (n := 0) (size := 3) (Nat.zero_le 0) (Nat.zero_le _) rfl)) rfl (hsrc.mono ((Below.refl _ _).alloc (Nat.le_refl _) _)) HL.out HO.out (by have := HN.out; omega) ?_))
  intro v' w1 hs1 hn1
  have H1 : Hid (¬ v' = .slice none 0 0) := by have := hn1; simpa [Hid] using this
  clear hn1
  go_wp2_with fail
  go_ret
  exact ⟨_, rfl, by simpa using hs1, by simpa using H1.out⟩

set_option maxHeartbeats 400000 in
theorem clone_line_nil (w : World) :
    Calls Try.prog 38 #[.slice none 0 0] w fun e w' => e = .returned (.slice none 0 0) ∧ w = w' := by
  have hnil := fun (w : World) (a : Option Addr) (l c : Nat) => Lib.run_eql_slice_nil (P := Try.prog) w 37 50 a l c 0 0 Try.underlying37
  go_enter Try.func38, Try.ntmps38
  go_wp2_with fail
  go_ret
  exact ⟨rfl, rfl⟩

theorem Ln.one {ls : List Ln} : ∀ u ∈ flat Ln.cells ls, u.oneCell' = true := by
  intro u hu
  simp only [flat, List.mem_flatMap] at hu
  obtain ⟨l, _, hu⟩ := hu
  simp [Ln.cells] at hu
  rcases hu with rfl | rfl | rfl <;> rfl

/-- A row of lines as a source. -/
theorem row_src {W w : World} {R : HProp} {e size n : Nat} {v : Value} {xs : List Value} (hs : Sat W w (Row e size v n xs * R)) : Src w v n xs := by
  have ho := hs.row_owns
  rcases hs.row_cases with ⟨rfl, rfl, rfl, _⟩ | ⟨g, cap, cur, rfl, h1, h2, h3, h4, _⟩
  · exact .inl ⟨rfl, rfl, rfl⟩
  · exact .inr ⟨⟨g, 0, none⟩, cap, rfl, ho.cells (g := g) rfl⟩

/-- slices.Clone of a row of lines: a new one. -/
theorem clone_any {W w : World} {R : HProp} {v : Value} {ls : List Ln} (hs : Sat W w (Row 50 3 v ls.length (flat Ln.cells ls) * R)) (hn : ls.length ≤ 1048576) :
    Calls Try.prog 38 #[v] w (RetRow W (Row 50 3 v ls.length (flat Ln.cells ls) * R) 50 3 ls.length (flat Ln.cells ls) (v = .slice none 0 0)) := by
  have hsrc := row_src hs
  rcases hs.row_cases with ⟨rfl, h0, hx, hr⟩ | ⟨g, cap, cur, rfl, h1, h2, h3, h4, hb⟩
  · refine (clone_line_nil w).mono ?_
    rintro e w' ⟨rfl, rfl⟩
    refine ⟨_, rfl, ?_, by simp⟩
    rw [h0, hx]
    exact Sat.row_nil (by rw [h0, hx] at hs; exact hs) _ _
  · refine (clone_line g cap ls.length _ hs hsrc (flat_length Ln.cells_length ls) Ln.one hn).mono ?_
    rintro e w' ⟨v', rfl, h, hn⟩
    exact ⟨v', rfl, h, by simpa using hn⟩

set_option maxHeartbeats 400000 in
theorem full_calls (b cap k n : Nat) (bl : Nat) (h : Bool) (o : Int) (v : Value) (w : World) (hv : v = .slice none 0 0 ∧ n = 0 ∨ v = .slice (some ⟨b, 0, none⟩) n cap)
    (h0 : w.cell? ⟨bl, k, none⟩ = some (.bool h)) (h2 : w.cell? ⟨bl, k + 2, none⟩ = some v) :
    Calls Try.prog 40 #[.pointer (some ⟨bl, k, none⟩)] w fun e w' => e = .returned (.bool (h && n == 0)) ∧ w = w' := by
  rcases hv with ⟨rfl, rfl⟩ | rfl <;> cases h
  all_goals
    go_enter Try.func40, Try.ntmps40
    go_wp2_with fail
    go_ret
    exact ⟨ret1 (val_bool (by first | (simp; done) | (simp; rw [Bool.eq_iff_iff]; simp))), rfl⟩

end Go.Proofs.Ytlejhnigbmgbpaa
