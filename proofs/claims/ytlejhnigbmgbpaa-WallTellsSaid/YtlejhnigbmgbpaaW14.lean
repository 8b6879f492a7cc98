import Derived.Test.YtlejhnigbmgbpaaW13
namespace Go.Proofs.Ytlejhnigbmgbpaa
open Go.RowKit Go.Lamp Go.Shelf
attribute [local go_sem] Oper.semAt_some

theorem cells_new (w : World) (cs : Array Value) (t : TypeId) : ∀ j u, cs.toList[j]? = some u → (w.alloc (.cells cs t)).cell? ((⟨w.heap.size, 0, none⟩ : Addr).add j) = some u := by
  intro j u hu
  have hadd : (⟨w.heap.size, 0, none⟩ : Addr).add j = ⟨w.heap.size, j, none⟩ := by unfold Addr.add; split <;> simp_all
  rw [hadd]
  simp only [World.cell?, heap_alloc_new]
  simpa using hu

/-- A box that holds a line. -/
def BoxedLn (W : World) (B : Nat) (x : Ln) : Prop := W.heap[B]? = some (.cells #[.int .u16 x.item, .int .u16 x.loc, .int .i64 x.qty] 50 (0, 0))
theorem BoxedLn.at {W : World} {B : Nat} {x : Ln} (h : BoxedLn W B x) : W.cell? ⟨B, 0, none⟩ = some (.int .u16 x.item) ∧ W.cell? ⟨B, 1, none⟩ = some (.int .u16 x.loc) ∧ W.cell? ⟨B, 2, none⟩ = some (.int .i64 x.qty) := by
  unfold BoxedLn at h
  refine ⟨?_, ?_, ?_⟩ <;> simp [World.cell?, h]

/-- slices.AppendSeq(nil, seq) at lines: whatever the iterator. -/
def Gathered (w : World) (S : List Ln → Prop) (en : Ending) (w' : World) : Prop :=
  ∃ xs v, S xs ∧ en = .returned v ∧ w'.ownsRow w.heap.size 50 3 v xs.length (flat Ln.cells xs) ∧ (v = .slice none 0 0 ↔ xs = []) ∧ Below w.heap.size w w'

set_option maxRecDepth 100000 in
set_option maxHeartbeats 2000000 in
theorem appendSeq_in (n : Nat) (hn : 3 ≤ n) (gf : Nat) (lb : Array Value) (S : List Ln → Prop) (N : Nat) (hN : N ≤ 4096) (w : World) (hent : Enters Try.prog gf)
    (hseq : ∀ W, Below w.heap.size w W → SeqStopsK Fence.wide (n - 1) Try.prog gf lb (fun x : Ln => #[Ln.val x]) (Below w.heap.size) S (fun _ => True) N W) :
    CallsIn Fence.wide n Try.prog 54 #[.slice none 0 0, .func (.func gf) #[] lb] w (Gathered w S) := by
  have h1 : 1 ≤ n := by omega
  obtain ⟨i0, hi, hz0, hz1, hz2⟩ := info_parts Try.infoLine
  have HI := Lib.hid hi
  have HZ0 := Lib.hid hz0
  clear hi hz0
  have HS := Lib.hid hseq
  clear hseq
  refine callsIn_of_wp_marks Try.func54 rfl trivial ?_ rfl
  simp only [Try.ntmps54, List.size_toArray, List.length_cons, List.length_nil, Nat.reduceAdd, Nat.reduceSub, Array.replicate_succ, Array.replicate_zero, List.push_toArray, List.append_toArray, List.nil_append, List.cons_append]
  gi_wp2
  have bO := Boxed.new w 37 (.slice none 0 0)
  have hB0 : Below w.heap.size w (w.alloc (.cells #[.slice none 0 0] 37)) := (Below.refl _ w).alloc (Nat.le_refl _) _
  refine wpIn_rangeFunc_ownH rfl h1 (gf := gf) (lb := lb) rfl trivial hent (HS.out w (Below.refl _ _)) belowK_t (belowK_b (by simp)) hB0 (fun _ => rfl)
    (fun pre W => (∃ v, Boxed W w.heap.size 37 v ∧ W.ownsRow w.heap.size 50 3 v pre.length (flat Ln.cells pre) ∧ (v = .slice none 0 0 ↔ pre = [])) ∧ Below w.heap.size w W)
    (fun _ _ _ => False)
    (OwnFrom.and (Own.from (holdsRow_own w.heap.size w.heap.size 37 50 3 (fun pre => pre.length) (fun pre => flat Ln.cells pre) (fun pre v => v = .slice none 0 0 ↔ pre = [])) _) (ownFrom_below (Nat.le_refl _) (by simp)))
    (fun _ _ _ _ _ hs _ _ => hs)
    ⟨⟨_, bO, World.ownsRow_nil _ _ _ _, by simp⟩, hB0⟩
    (fun x a' W => ∃ Bx, w.heap.size < Bx ∧ BoxedLn W Bx x ∧ a' = { tmps := #[.slice none 0 0, .func (.func gf) #[] lb, .pointer (some ⟨w.heap.size, 0, none⟩), undef, .slice none 0 0, .pointer (some ⟨Bx, 0, none⟩), .func (.func gf) #[] lb, Ln.val x, undef, undef, undef, undef, undef], defers := [] })
    ?hax ?assign ?body ?done ?stop
  case hax =>
    rintro x a' _ W W' row ⟨Bx, hlt, hb, rfl⟩ hg hr
    refine ⟨Bx, hlt, ?_, rfl⟩
    unfold BoxedLn at *
    rw [hg.block Bx (Array.getElem?_eq_some_iff.1 hb).1 ?_, hb]
    rintro rfl
    obtain ⟨_, o, ho, hc⟩ := hr _ rfl
    rw [hb] at ho
    cases ho
    cases hc
  case assign =>
    rintro l pre x W K ⟨⟨v, hv, hrow, hnil⟩, hB⟩ hK
    have hsz := hB.size
    gi_wp2
    exact hK _ _ ((KeepsOthers.alloc _ _).from _) ((Below.refl _ W).alloc hsz _) ⟨⟨v, hv.alloc _, hrow.alloc _, hnil⟩, hB.alloc hsz _⟩ ⟨W.heap.size, hv.lt, heap_alloc_new W _, rfl⟩
  case body =>
    rintro l pre x a' W hl hr ⟨⟨v, hv, hrow, hnil⟩, hB⟩ ⟨Bx, hBx, hbx, rfl⟩ hlt
    have hc := hv.cell
    have hcf := hv.frozen
    obtain ⟨c0, c1, c2⟩ := hbx.at
    have hsz := hB.size
    have hpl : pre.length < 4096 := by omega
    have hfl := flat_append (f := Ln.cells) pre [x]
    have HFl := Lib.hid hfl
    have HNil := Lib.hid hnil
    clear hfl hnil hlt
    gi_wp2_with (gi_at_builtin; refine wpListIn_append_own _ rfl _ _ 37 rfl w.heap.size 50 i0 _ 3 16 Try.underlying37 HI.out HZ0.out hz1 hz2 rfl (by decide) _ _ _ rfl (hrow.alloc _) ⟨W.heap.size, 0, none⟩ 1 1 [.int .u16 x.item, .int .u16 x.loc, .int .i64 x.qty] rfl rfl (cells_new W #[.int .u16 x.item, .int .u16 x.loc, .int .i64 x.qty] _) (by simp [Value.oneCell']) (by unfold maxLen; omega) (by omega) (by simp; omega) ?_; intro v' w1 hown' hgrow _; obtain ⟨g', cap', rfl⟩ := ownsRow_succ hown'; obtain ⟨hv1, hv2, hr2, hk2, hb2⟩ := hv.appended (by decide) hrow hB.size (Nat.le_refl _) hown' hgrow; have hc1 := hv1.cell; have hf1 := hv1.frozen)
    exact ⟨hk2.from _, hb2, ⟨_, hv2, by rw [HFl.out, List.length_append]; exact hr2, by simp⟩, hB.trans hb2⟩
  case done =>
    rintro D ys W hD hS ⟨⟨v, hv, hrow, hnil⟩, hB⟩ hK
    have hc := hv.cell
    have HNil := Lib.hid hnil
    clear hnil
    gi_wp2
    refine ⟨by simp, .inl ⟨_, _, rfl, run_takeDeferred hK, ?_⟩⟩
    exact ⟨_, results_tmp rfl _ _ _, ys, v, hS, rfl, ownsRow_putObj hrow _ hK rfl, HNil.out, hB.trans (belowK_b (w := w) (Nat.le_refl _) W D _ _ (by simp at hD; omega) hK rfl rfl)⟩
  case stop =>
    rintro D c pre W _ _ h _
    exact h.elim
end Go.Proofs.Ytlejhnigbmgbpaa
