import Derived.Test.YtlejhnigbmgbpaaW23
import Derived.Deep.Fields
namespace Go.Proofs.Ytlejhnigbmgbpaa
open Go.RowKit Go.Lamp Go.Deep Go.ChangeShapes Go.WideShapes

theorem u16_min : IntKind.u16.min = 0 := by decide
theorem u16_max : IntKind.u16.max = 65535 := by decide
theorem i64_min : IntKind.i64.min = -9223372036854775808 := by decide
theorem i64_max : IntKind.i64.max = 9223372036854775807 := by decide

/-! Rows of records of one-cell fields, opened. -/
theorem open_recs {H : Type} {enc : TypeId × Value → H} {P : Program} {w : World} {base : Nat} {spare : Nat → Bool} {held : Bool} {t e : TypeId} {fs : Array Field} {fuel : Nat} {v : Value} {x : DataW H × List MemPlace}
    (ht : P.underlying t = some (.slice e)) (he : P.underlying e = some (.struct fs)) (h1 : oneCellFields P fs = true) (hC : P.cellsOf e = fs.size) (hpos : 0 < fs.size) (h : DataW.trod enc P w base spare held fuel t [v] = some x) :
    ∃ a len cap, v = .slice a len cap ∧ len ≤ 9223372036854775807 ∧ (len = 0 ∨ ∃ b off n, a = some ⟨b, off, none⟩ ∧ ∀ i, i < len → ∀ j f, fs[j]? = some f → ∃ u y, w.cell? ⟨b, off + i * fs.size + j, none⟩ = some u ∧ DataW.trod enc P w base spare held n f.type [u] = some y) := by
  rcases open_slice ht h with ⟨h0, _⟩ | ⟨a, len, cap, m, n, D, Pl, h0, hb, hl, hm, hmm, rfl, hx⟩
  · simp only [List.cons.injEq, and_true] at h0
    exact ⟨none, 0, 0, h0, by omega, .inl rfl⟩
  · simp only [List.cons.injEq, and_true] at h0
    have hlm : len ≤ m := by rw [hmm]; split <;> omega
    refine ⟨some a, len, cap, h0, by unfold maxLen at hm; omega, ?_⟩
    by_cases hz : len = 0
    · exact .inl hz
    · refine .inr ?_
      obtain ⟨b, o, spot⟩ := a
      have hspot : spot = none := by
        obtain ⟨cs', hc, _⟩ := hx 0 (by omega)
        rw [hC] at hc
        obtain ⟨_, hlen, hcell⟩ := World.cells?_some hc
        have h0 := hcell 0 hpos
        rw [List.getElem?_eq_getElem (by omega)] at h0
        simpa [Addr.add] using World.cell?_spot h0
      subst hspot
      refine ⟨b, o, n - 1, rfl, fun i hi j f hj => ?_⟩
      obtain ⟨cs', hc, ht2⟩ := hx i (by omega)
      rw [hC, add_plain] at hc
      obtain ⟨_, hlen, hcell⟩ := World.cells?_some hc
      obtain ⟨xs, k, rfl, _, _, hxl, hf⟩ := DataW.trod_struct he ht2
      have hjl : j < fs.size := (Array.getElem?_eq_some_iff.1 hj).1
      obtain ⟨ho, hc1⟩ := hone_of h1 j f hj
      have g := hf j f hj
      rw [ho, hc1, take1_drop cs' j undef (by omega), List.getElem?_eq_getElem (by omega)] at g
      refine ⟨_, _, ?_, g⟩
      have := hcell j hjl
      rw [add_plain, List.getElem?_eq_getElem (by omega)] at this
      rw [this]
      simp [List.getD, List.getElem?_eq_getElem (show j < cs'.length by omega)]

section
variable {H : Type} {enc : TypeId × Value → H} {w : World} {base : Nat} {spare : Nat → Bool} {held : Bool} {fuel : Nat} {v : Value} {x : DataW H × List MemPlace}

theorem open_int1 {k : IntKind} {t : TypeId} (ht : Try.prog.underlying t = some (.int k)) (h : DataW.trod enc Try.prog w base spare held fuel t [v] = some x) : ∃ n, v = .int k n ∧ k.min ≤ n ∧ n ≤ k.max := by
  obtain ⟨n, h1, _, h2⟩ := DataW.trod_int ht h
  simp only [List.cons.injEq, and_true] at h1
  simp only [Lit.wf, Bool.and_eq_true, decide_eq_true_eq] at h2
  exact ⟨n, h1, h2.1, h2.2⟩

instance : Inhabited Ln := ⟨⟨0, 0, 0⟩⟩
instance : Inhabited Stp := ⟨⟨0, 0, 0, 0, 0, none, 0, 0, []⟩⟩

theorem list_of {α : Type} [Inhabited α] {n : Nat} {p : Nat → α → Prop} (h : ∀ i, i < n → ∃ x, p i x) : ∃ l : List α, l.length = n ∧ ∀ i (hi : i < l.length), p i l[i] := by
  obtain ⟨f, hf⟩ := choose_lt h
  exact ⟨(List.range n).map f, by simp, fun i hi => by simp at hi; simpa using hf i hi⟩

theorem open_lines (h : DataW.trod enc Try.prog w base spare held fuel 37 [v] = some x) :
    ∃ a len cap ls, v = .slice a len cap ∧ LnOld w a len ls ∧ LnWf ls ∧ len ≤ 9223372036854775807 := by
  obtain ⟨a, len, cap, rfl, hl, hr⟩ := open_recs Try.underlying37 Try.underlying50 (by kernel_rfl) (by kernel_rfl) (by decide) h
  rcases hr with rfl | ⟨b, off, n, rfl, hc⟩
  · exact ⟨a, 0, cap, [], rfl, ⟨rfl, .inl rfl⟩, by simp [LnWf], by omega⟩
  · have each : ∀ i, i < len → ∃ l : Ln, (w.cell? ⟨b, off + i * 3, none⟩ = some (.int .u16 l.item) ∧ w.cell? ⟨b, off + i * 3 + 1, none⟩ = some (.int .u16 l.loc) ∧ w.cell? ⟨b, off + i * 3 + 2, none⟩ = some (.int .i64 l.qty)) ∧
        ((0 ≤ l.item ∧ l.item ≤ 65535) ∧ (0 ≤ l.loc ∧ l.loc ≤ 65535) ∧ -9223372036854775808 ≤ l.qty ∧ l.qty ≤ 9223372036854775807) := by
      intro i hi
      obtain ⟨u0, y0, c0, t0⟩ := hc i hi 0 _ rfl
      obtain ⟨u1, y1, c1, t1⟩ := hc i hi 1 _ rfl
      obtain ⟨u2, y2, c2, t2⟩ := hc i hi 2 _ rfl
      obtain ⟨n0, rfl, a0, b0⟩ := open_int1 Try.underlying36 t0
      obtain ⟨n1, rfl, a1, b1⟩ := open_int1 Try.underlying36 t1
      obtain ⟨n2, rfl, a2, b2⟩ := open_int1 Try.underlying3 t2
      rw [u16_min] at a0 a1; rw [u16_max] at b0 b1; rw [i64_min] at a2; rw [i64_max] at b2
      exact ⟨⟨n0, n1, n2⟩, ⟨c0, c1, c2⟩, ⟨a0, b0⟩, ⟨a1, b1⟩, a2, b2⟩
    obtain ⟨ls, hln, hp⟩ := list_of each
    refine ⟨_, len, cap, ls, rfl, ⟨hln, .inr ⟨b, off, rfl, fun k hk => (hp k hk).1⟩⟩, fun l hl => ?_, by omega⟩
    obtain ⟨k, hk, rfl⟩ := List.getElem_of_mem hl
    exact (hp k hk).2

theorem open_steps (h : DataW.trod enc Try.prog w base spare held fuel 35 [v] = some x) :
    ∃ a len cap ss, v = .slice a len cap ∧ StpOld w a len ss ∧ len ≤ 9223372036854775807 := by
  obtain ⟨a, len, cap, rfl, hl, hr⟩ := open_recs Try.underlying35 Try.underlying39 (by kernel_rfl) (by kernel_rfl) (by decide) h
  rcases hr with rfl | ⟨b, off, n, rfl, hc⟩
  · exact ⟨a, 0, cap, [], rfl, ⟨rfl, by simp, .inl rfl⟩, by omega⟩
  · have each : ∀ i, i < len → ∃ s : Stp, (w.cell? ⟨b, off + i * 6, none⟩ = some (.int .i64 s.kind) ∧ w.cell? ⟨b, off + i * 6 + 1, none⟩ = some (.int .i64 s.cubby) ∧ w.cell? ⟨b, off + i * 6 + 2, none⟩ = some (.int .i64 s.qty) ∧
        w.cell? ⟨b, off + i * 6 + 3, none⟩ = some (.int .u32 s.id) ∧ w.cell? ⟨b, off + i * 6 + 4, none⟩ = some (.int .u16 s.item) ∧ w.cell? ⟨b, off + i * 6 + 5, none⟩ = some (.slice s.la s.ln s.lc)) ∧ s.Ok w := by
      intro i hi
      obtain ⟨u0, y0, c0, t0⟩ := hc i hi 0 _ rfl
      obtain ⟨u1, y1, c1, t1⟩ := hc i hi 1 _ rfl
      obtain ⟨u2, y2, c2, t2⟩ := hc i hi 2 _ rfl
      obtain ⟨u3, y3, c3, t3⟩ := hc i hi 3 _ rfl
      obtain ⟨u4, y4, c4, t4⟩ := hc i hi 4 _ rfl
      obtain ⟨u5, y5, c5, t5⟩ := hc i hi 5 _ rfl
      obtain ⟨n0, rfl, a0, b0⟩ := open_int1 Try.underlying3 t0
      obtain ⟨n1, rfl, a1, b1⟩ := open_int1 Try.underlying3 t1
      obtain ⟨n2, rfl, a2, b2⟩ := open_int1 Try.underlying3 t2
      obtain ⟨n3, rfl, a3, b3⟩ := open_int1 Try.underlying30 t3
      obtain ⟨n4, rfl, a4, b4⟩ := open_int1 Try.underlying36 t4
      obtain ⟨la, ln, lc, ls, rfl, ho, hw, hn⟩ := open_lines t5
      rw [u16_min] at a4; rw [u16_max] at b4; rw [i64_min] at a2
      exact ⟨⟨n0, n1, n2, n3, n4, la, ln, lc, ls⟩, ⟨c0, c1, c2, c3, c4, c5⟩, ⟨ho, hw, hn, a2, a4, b4⟩⟩
    obtain ⟨ss, hln, hp⟩ := list_of each
    refine ⟨_, len, cap, ss, rfl, ⟨hln, fun l hl => ?_, .inr ⟨b, off, rfl, fun k hk => (hp k hk).1⟩⟩, by omega⟩
    obtain ⟨k, hk, rfl⟩ := List.getElem_of_mem hl
    exact (hp k hk).2
end
end Go.Proofs.Ytlejhnigbmgbpaa
