import Derived.Test.YtlejhnigbmgbpaaWM
namespace Go.Lamp
open Go.RowKit

/-- A source of append: nil, or cells that read as 'news'. -/
def Src (w : World) (sv : Value) (m : Nat) (news : List Value) : Prop :=
  (sv = .slice none 0 0 ∧ m = 0 ∧ news = []) ∨ ∃ a c, sv = .slice (some a) m c ∧ ∀ j u, news[j]? = some u → w.cell? (a.add j) = some u

theorem heap_drew_alloc_old {w : World} {o : Obj} {k : Nat} (h : k < w.heap.size) : (w.drew.alloc o).heap[k]? = w.heap[k]? := Below.heap_alloc w.drew o k h
theorem setRow_at {w : World} {g : Nat} {c c' : Array Value} {e : TypeId} {f : Nat × Nat} (h : w.heap[g]? = some (.cells c e f)) : (w.setRow g c').heap[g]? = some (.cells c' e f) := setRow_heap w g c c' e f h

theorem Sat.append {P : Program} {W w : World} {R : HProp} {t ty e : TypeId} {i : TypeInfo} {z : Value} {size bytes n m : Nat} {v sv : Value} {xs news : List Value}
    (h : Sat W w (Row e size v n xs * R)) (ht : P.underlying t = some (.slice e)) (hi : P.info? e = some i) (hz : i.zero = some z)
    (hsize : i.size = size) (hby : i.bytes = bytes) (hzs : z.cells.size = size)
    (hsrc : Src w sv m news) (hl : news.length = m * size) (h1 : ∀ u ∈ news, u.oneCell' = true)
    (h63 : n + m ≤ maxLen) (hbytes : (n + m) * bytes ≤ 140737488355328) :
    ∃ v' w', (Builtin.append_ #[t, t] ty #[v, sv]).run P w = .ok v' w' ∧ Sat W w' (Row e size v' (n + m) (xs ++ news) * R) ∧ (v' = .slice none 0 0 ↔ v = .slice none 0 0 ∧ m = 0) := by
  subst hsize
  subst hby
  have hxl := h.row_len
  have hsmall : n + m ≤ 9223372036854775807 := by simp only [maxLen] at h63; omega
  have grown : ∀ (old : Nat), old < n + m → ∀ {Q : HProp}, Sat W w Q →
      Sat W (w.drew.alloc (.cells (xs.toArray ++ news.toArray ++ Builtin.zeroCells z.cells (grownCap w (n + m) old e - (n + m))) e))
        (Row e i.size (.slice (some ⟨w.heap.size, 0, none⟩) (n + m) (grownCap w (n + m) old e)) (n + m) (xs ++ news) * Q) := by
    intro old ho Q hq
    have hge := grownCap_ge w (n + m) old e
    have hcm : grownCap w (n + m) old e ≤ maxLen := grownCap_le_maxLen w (n + m) old e h63
    have ha := hq.drew.alloc (.cells (xs.toArray ++ news.toArray ++ Builtin.zeroCells z.cells (grownCap w (n + m) old e - (n + m))) e)
    have hr := ha.row_mk (n := n + m) (size := i.size) hge hcm (by
      simp only [Array.size_append, List.size_toArray, size_zeroCells, hzs, hxl, hl, ← Nat.add_mul]
      congr 1
      omega)
    refine hr.eq ?_
    congr 2
    simp only [Array.toList_append, List.append_assoc]
    rw [← List.append_assoc, show (n + m) * i.size = (xs ++ news).length by rw [List.length_append, hxl, hl, Nat.add_mul]]
    exact List.take_left
  rcases hsrc with ⟨rfl, rfl, rfl⟩ | ⟨a, c, rfl, hnews⟩
  · simp only [Nat.add_zero, List.append_nil, and_true]
    refine ⟨v, w, ?_, h, Iff.rfl⟩
    rcases h.row_cases with ⟨rfl, rfl, rfl, _⟩ | ⟨g, cap, cur, rfl, hnc, _, _, _, _⟩
    · simp [Builtin.append_, run_underlying ht, sizeOf, typeInfo, hi, Builtin.lenOf, Builtin.firstCells, loadCells, loadCellsFrom]
    · simp [Builtin.append_, run_underlying ht, sizeOf, typeInfo, hi, Builtin.lenOf, Builtin.firstCells, loadCells, loadCellsFrom, hnc, storeCells]
  rcases h.row_cases with ⟨rfl, rfl, rfl, hs⟩ | ⟨g, cap, cur, rfl, hnc, hcm, hcs, htake, hs⟩
  · by_cases hm : m = 0
    · subst hm
      have hn : news = [] := List.eq_nil_of_length_eq_zero (by simpa using hl)
      subst hn
      refine ⟨.slice none 0 0, w, ?_, hs.row_nil e i.size, by simp⟩
      simp [Builtin.append_, run_underlying ht, sizeOf, typeInfo, hi, Builtin.lenOf, Builtin.firstCells, loadCells, loadCellsFrom]
    · have hr := run_append_nil (P := P) w t ty e i z ht hi hz a m c news hl hnews (by omega) (by omega) (by have hb := hbytes; simp only [Nat.zero_add] at hb; omega)
      have hgr := grown 0 (by omega) hs
      simp only [Nat.zero_add, List.nil_append, Array.empty_append] at hgr ⊢
      exact ⟨_, _, hr, hgr, by simp [hm]⟩
  · have hb := hs.block
    by_cases hroom : n + m ≤ cap
    · have hfit : n * i.size + news.length ≤ cur.size := by rw [hl, hcs, ← Nat.add_mul]; exact Nat.mul_le_mul_right _ hroom
      have hr := run_append_room (P := P) w t ty e i ht hi g n cap cur hb a m c news hl hnews h1 hroom hfit
      have hset := setRow_at (c' := (cur.toList.take (n * i.size) ++ news ++ cur.toList.drop (n * i.size + news.length)).toArray) hb
      have hs' := (hs.upd (w' := w.setRow g _) rfl rfl rfl hset (fun k _ hk => setRow_other w g k _ (fun e => hk (by simp [e])))).row_mk (n := n + m) (size := i.size) hroom hcm
        (by simp only [List.size_toArray, List.length_append, List.length_take, List.length_drop, Array.length_toList]; omega)
      refine ⟨_, _, hr, hs'.eq ?_, by simp⟩
      congr 2
      rw [htake, show (n + m) * i.size = (xs ++ news).length by rw [List.length_append, hxl, hl, Nat.add_mul]]
      exact List.take_left
    · have holds : ∀ j u, xs[j]? = some u → w.cell? ((⟨g, 0, none⟩ : Addr).add j) = some u := h.row_owns.cells (g := g) rfl
      have hr := run_append_grow (P := P) w t ty e i z ht hi hz ⟨g, 0, none⟩ n cap xs hxl holds a m c news hl hnews (by omega) (by omega) (growslice_fits (by omega) hbytes)
      exact ⟨_, _, hr, grown cap (by omega) hs.right, by simp⟩

theorem wpList_append_sat {P : Program} {W w : World} {R : HProp} {ops : Array Oper} {rest : List Oper} {o : Oper} {a : Act} {Q : Exit → Act → World → Prop} (hgd : o.guard = none) (s x : Operand) (t : TypeId)
    (ho : o.op = .call { callee := .builtin .append, args := #[s, x], argTypes := #[t, t] })
    {e : TypeId} {i : TypeInfo} {z : Value} {size bytes : Nat} (ht : P.underlying t = some (.slice e)) (hi : P.info? e = some i) (hz : i.zero = some z)
    (hsize : i.size = size) (hby : i.bytes = bytes) (hzs : z.cells.size = size)
    {v : Value} {n : Nat} {xs : List Value} (hs : a.eval s = v) (hown : Sat W w (Row e size v n xs * R))
    {sv : Value} {m : Nat} {news : List Value} (hx : a.eval x = sv) (hsrc : Src w sv m news) (hl : news.length = m * size) (h1 : ∀ u ∈ news, u.oneCell' = true)
    (h63 : n + m ≤ maxLen) (hbytes : (n + m) * bytes ≤ 140737488355328)
    (h : ∀ v' w', Sat W w' (Row e size v' (n + m) (xs ++ news) * R) → (v' = .slice none 0 0 ↔ v = .slice none 0 0 ∧ m = 0) → wpList P ops Q rest (a.put o.dst v') w') : wpList P ops Q (o :: rest) a w :=
  wpList_plain hgd fun K hK => by
    obtain ⟨v', w', hr, h2, h3⟩ := Sat.append (ty := o.type) hown ht hi hz hsize hby hzs hsrc hl h1 h63 hbytes
    unfold Oper.wp execOp
    simp only [ho, resolve, invoke, builtin, Sem.run_bind, Sem.run_pure, Result.andThen_ok, List.map_toArray, List.map_cons, List.map_nil, hs, hx, hr]
    exact hK _ _ (h v' w' h2 h3)

/-- append in place: there is room, and the source may lie in the same row. -/
theorem wpList_append_room_sat {P : Program} {W w : World} {R : HProp} {ops : Array Oper} {rest : List Oper} {o : Oper} {a : Act} {Q : Exit → Act → World → Prop} (hgd : o.guard = none) (s x : Operand) (t : TypeId)
    (ho : o.op = .call { callee := .builtin .append, args := #[s, x], argTypes := #[t, t] })
    {e : TypeId} {i : TypeInfo} {size : Nat} (ht : P.underlying t = some (.slice e)) (hi : P.info? e = some i) (hsize : i.size = size)
    {g n cap : Nat} {cur : Array Value} (hs : a.eval s = .slice (some ⟨g, 0, none⟩) n cap) (hown : Sat W w (blk g (.cells cur e (0, 0)) * R))
    {b : Addr} {m c : Nat} {news : List Value} (hx : a.eval x = .slice (some b) m c) (hnews : ∀ j u, news[j]? = some u → w.cell? (b.add j) = some u) (hl : news.length = m * size) (h1 : ∀ u ∈ news, u.oneCell' = true)
    (hroom : n + m ≤ cap) (hfit : cur.size = cap * size)
    (h : ∀ w', Sat W w' (blk g (.cells (cur.toList.take (n * size) ++ news ++ cur.toList.drop (n * size + news.length)).toArray e (0, 0)) * R) → wpList P ops Q rest (a.put o.dst (.slice (some ⟨g, 0, none⟩) (n + m) cap)) w') : wpList P ops Q (o :: rest) a w :=
  wpList_plain hgd fun K hK => by
    subst hsize
    have hf : n * i.size + news.length ≤ cur.size := by rw [hl, hfit, ← Nat.add_mul]; exact Nat.mul_le_mul_right _ hroom
    have hr := run_append_room (P := P) w t o.type e i ht hi g n cap cur hown.block b m c news hl hnews h1 hroom hf
    have hset := setRow_at (c' := (cur.toList.take (n * i.size) ++ news ++ cur.toList.drop (n * i.size + news.length)).toArray) hown.block
    have hs' := hown.upd (w' := w.setRow g _) rfl rfl rfl hset (fun k _ hk => setRow_other w g k _ (fun e => hk (by simp [e])))
    unfold Oper.wp execOp
    simp only [ho, resolve, invoke, builtin, Sem.run_bind, Sem.run_pure, Result.andThen_ok, List.map_toArray, List.map_cons, List.map_nil, hs, hx, hr]
    exact hK _ _ (h _ hs')

theorem Addr.mk_add (g q j : Nat) : (⟨g, q, none⟩ : Addr).add j = ⟨g, q + j, none⟩ := by unfold Addr.add; split <;> simp_all

/-- clear of a part of a row of one's own. -/
theorem wpList_clear_sat {P : Program} {W w : World} {R : HProp} {ops : Array Oper} {rest : List Oper} {o : Oper} {a : Act} {Q : Exit → Act → World → Prop} (hgd : o.guard = none) (s : Operand) (t : TypeId)
    (ho : o.op = .call { callee := .builtin .clear, args := #[s], argTypes := #[t] })
    {e : TypeId} {z : Value} {size : Nat} (ht : P.underlying t = some (.slice e)) (hv : ∀ w, (zeroValue e).run P w = .ok z w) (hz : z.cells.size = size) (h1 : ∀ u ∈ z.cells.toList, u.oneCell' = true)
    {g q c : Nat} {cur : Array Value} (hs : a.eval s = .slice (some ⟨g, q, none⟩) 1 c) (hown : Sat W w (blk g (.cells cur e (0, 0)) * R)) (hfit : q + size ≤ cur.size)
    (h : ∀ w', Sat W w' (blk g (.cells (cur.toList.take q ++ z.cells.toList ++ cur.toList.drop (q + size)).toArray e (0, 0)) * R) → wpList P ops Q rest (a.put o.dst (.tuple #[])) w') : wpList P ops Q (o :: rest) a w :=
  wpList_plain hgd fun K hK => by
    have hzc : (Builtin.zeroCells z.cells 1).toList = z.cells.toList := by
      simp only [Builtin.zeroCells, Nat.one_mul]
      apply List.ext_getElem
      · simp
      · intro i h1 h2
        simp at h1 h2
        simp [Nat.mod_eq_of_lt h1, h1]
    have hst := run_storeCells_at P g q e z.cells.toList 0 cur w hown.block (by simpa [hz] using hfit) h1
    simp only [Nat.add_zero, Array.length_toList, hz] at hst
    have hset := setRow_at (c' := (cur.toList.take q ++ z.cells.toList ++ cur.toList.drop (q + size)).toArray) hown.block
    have hs' := hown.upd (w' := w.setRow g _) rfl rfl rfl hset (fun k _ hk => setRow_other w g k _ (fun e => hk (by simp [e])))
    have hr : (Builtin.clear_ #[t] o.type #[.slice (some ⟨g, q, none⟩) 1 c]).run P w = .ok (.tuple #[]) (w.setRow g (cur.toList.take q ++ z.cells.toList ++ cur.toList.drop (q + size)).toArray) := by
      simp [Builtin.clear_, run_underlying ht, hv, hzc, hst]
    unfold Oper.wp execOp
    simp only [ho, resolve, invoke, builtin, Sem.run_bind, Sem.run_pure, Result.andThen_ok, List.map_toArray, List.map_cons, List.map_nil, hs, hr]
    exact hK _ _ (h _ hs')
end Go.Lamp
