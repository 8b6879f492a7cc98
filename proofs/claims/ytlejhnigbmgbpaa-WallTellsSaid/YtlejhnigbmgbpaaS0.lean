import Derived.Below
import Derived.WalkKit
import Derived.WalkSpells
import Derived.WalkLawsBesides
import Derived.Lib.Hide
import Derived.Laws.Rows
namespace Go.Lamp
open Go.RowKit

/-! Assertions over a part of the heap: block by block. -/

abbrev Part := Nat → Option Obj
def HProp : Type := Part → Prop

def Part.none : Part := fun _ => Option.none
def Part.disj (a b : Part) : Prop := ∀ k, a k = Option.none ∨ b k = Option.none
def Part.join (a b : Part) : Part := fun k => (a k).or (b k)

def HProp.star (P Q : HProp) : HProp := fun h => ∃ a b, P a ∧ Q b ∧ Part.disj a b ∧ h = Part.join a b
def HProp.emp : HProp := fun h => h = Part.none
instance : Mul HProp := ⟨HProp.star⟩
instance : One HProp := ⟨HProp.emp⟩
def lift (p : Prop) : HProp := fun h => p ∧ h = Part.none
def blk (b : Nat) (o : Obj) : HProp := fun h => h = fun k => if k = b then some o else Option.none
def hex {α : Type} (P : α → HProp) : HProp := fun h => ∃ x, P x h
def Old (W : World) : HProp := fun h => h = fun k => W.heap[k]?

theorem Part.join_none (a : Part) : Part.join a Part.none = a := by funext k; simp [Part.join, Part.none]
theorem Part.none_join (a : Part) : Part.join Part.none a = a := by funext k; simp [Part.join, Part.none]
theorem Part.disj_none (a : Part) : Part.disj a Part.none := fun _ => .inr rfl
theorem Part.none_disj (a : Part) : Part.disj Part.none a := fun _ => .inl rfl
theorem Part.join_comm {a b : Part} (h : Part.disj a b) : Part.join a b = Part.join b a := by
  funext k
  rcases h k with h | h <;> simp [Part.join, h]
theorem Part.disj_comm {a b : Part} (h : Part.disj a b) : Part.disj b a := fun k => (h k).symm
theorem Part.join_assoc (a b c : Part) : Part.join (Part.join a b) c = Part.join a (Part.join b c) := by
  funext k
  cases h : a k <;> simp [Part.join, h]
theorem Part.disj_join_left {a b c : Part} (h : Part.disj (Part.join a b) c) : Part.disj a c ∧ Part.disj b c := by
  refine ⟨fun k => ?_, fun k => ?_⟩ <;> rcases h k with h | h
  · left; cases ha : a k <;> simp_all [Part.join]
  · exact .inr h
  · left; cases ha : a k <;> simp_all [Part.join]
  · exact .inr h
theorem Part.disj_join {a b c : Part} (h : Part.disj a c) (h' : Part.disj b c) : Part.disj (Part.join a b) c := by
  intro k
  rcases h k with h | h
  · rcases h' k with h' | h'
    · left; simp [Part.join, h, h']
    · exact .inr h'
  · exact .inr h

theorem star_comm (P Q : HProp) : P * Q = Q * P := by
  funext h
  apply propext
  constructor <;> rintro ⟨a, b, ha, hb, hd, rfl⟩ <;> exact ⟨b, a, hb, ha, Part.disj_comm hd, Part.join_comm hd⟩
theorem star_assoc (P Q R : HProp) : P * Q * R = P * (Q * R) := by
  funext h
  apply propext
  constructor
  · rintro ⟨ab, c, ⟨a, b, ha, hb, hd, rfl⟩, hc, hd2, rfl⟩
    obtain ⟨h1, h2⟩ := Part.disj_join_left hd2
    refine ⟨a, Part.join b c, ha, ⟨b, c, hb, hc, h2, rfl⟩, ?_, Part.join_assoc a b c⟩
    exact Part.disj_comm (Part.disj_join (Part.disj_comm hd) (Part.disj_comm h1))
  · rintro ⟨a, bc, ha, ⟨b, c, hb, hc, hd, rfl⟩, hd2, rfl⟩
    obtain ⟨h1, h2⟩ := Part.disj_join_left (Part.disj_comm hd2)
    exact ⟨Part.join a b, c, ⟨a, b, ha, hb, Part.disj_comm h1, rfl⟩, hc, Part.disj_join (Part.disj_comm h2) hd, (Part.join_assoc a b c).symm⟩
instance : Std.Associative (α := HProp) (· * ·) := ⟨star_assoc⟩
instance : Std.Commutative (α := HProp) (· * ·) := ⟨star_comm⟩
theorem star_left_comm (P Q R : HProp) : P * (Q * R) = Q * (P * R) := by ac_rfl
theorem emp_star (P : HProp) : 1 * P = P := by
  funext h
  apply propext
  constructor
  · rintro ⟨a, b, rfl, hb, _, rfl⟩; rw [Part.none_join]; exact hb
  · intro hp; exact ⟨Part.none, h, rfl, hp, Part.none_disj h, (Part.none_join h).symm⟩
theorem star_emp (P : HProp) : P * 1 = P := by rw [star_comm, emp_star]
theorem lift_star (p : Prop) (P : HProp) (h : Part) : (lift p * P) h ↔ p ∧ P h := by
  constructor
  · rintro ⟨a, b, ⟨hp, rfl⟩, hb, _, rfl⟩; rw [Part.none_join]; exact ⟨hp, hb⟩
  · rintro ⟨hp, hb⟩; exact ⟨Part.none, h, ⟨hp, rfl⟩, hb, Part.none_disj h, (Part.none_join h).symm⟩
theorem hex_star {α : Type} (P : α → HProp) (Q : HProp) : hex P * Q = hex fun x => P x * Q := by
  funext h
  apply propext
  constructor
  · rintro ⟨a, b, ⟨x, hx⟩, hb, hd, rfl⟩; exact ⟨x, a, b, hx, hb, hd, rfl⟩
  · rintro ⟨x, a, b, hx, hb, hd, rfl⟩; exact ⟨a, b, ⟨x, hx⟩, hb, hd, rfl⟩

/-! A world that holds an assertion; 'W' is the world at the begin: its streams are as they were. -/
structure Sat (W w : World) (H : HProp) : Prop where
  os : w.os = W.os
  tape : w.tape = W.tape
  output : w.output = W.output
  part : ∃ h, H h ∧ ∀ k o, h k = some o → w.heap[k]? = some o

section
variable {W w : World} {P Q R H : HProp} {b b' : Nat} {o o' : Obj}

theorem Sat.start (W : World) : Sat W W (Old W) := ⟨rfl, rfl, rfl, _, rfl, fun _ _ h => h⟩
theorem Sat.start' (W : World) : Sat W W (1 * Old W) := by rw [emp_star]; exact Sat.start W
theorem Sat.to (h : Sat W w P) (e : ∀ x, P x → Q x) : Sat W w Q :=
  let ⟨a, b, c, x, hx, hk⟩ := h; ⟨a, b, c, x, e x hx, hk⟩
theorem Sat.eq (h : Sat W w P) (e : P = Q) : Sat W w Q := e ▸ h
theorem Sat.left (h : Sat W w (P * Q)) : Sat W w P := by
  obtain ⟨a, b, c, x, ⟨x1, x2, h1, h2, hd, rfl⟩, hk⟩ := h
  refine ⟨a, b, c, x1, h1, fun k o ho => hk k o ?_⟩
  simp [Part.join, ho]
theorem Sat.right (h : Sat W w (P * Q)) : Sat W w Q := by rw [star_comm] at h; exact h.left
theorem Sat.block (h : Sat W w (blk b o * R)) : w.heap[b]? = some o := by
  obtain ⟨_, _, _, x, rfl, hk⟩ := h.left
  exact hk b o (by simp)
theorem Sat.lt (h : Sat W w (blk b o * R)) : b < w.heap.size := (Array.getElem?_eq_some_iff.1 h.block).1
theorem Sat.ne (h : Sat W w (blk b o * (blk b' o' * R))) : b ≠ b' := by
  obtain ⟨_, _, _, x, ⟨x1, x2, rfl, ⟨x3, x4, rfl, _, _, rfl⟩, hd, rfl⟩, hk⟩ := h
  rintro rfl
  rcases hd b with h | h <;> simp [Part.join] at h
theorem Sat.lift_iff {p : Prop} : Sat W w (lift p * R) ↔ p ∧ Sat W w R := by
  constructor
  · rintro ⟨a, b, c, x, hx, hk⟩
    rw [lift_star] at hx
    exact ⟨hx.1, a, b, c, x, hx.2, hk⟩
  · rintro ⟨hp, a, b, c, x, hx, hk⟩
    exact ⟨a, b, c, x, (lift_star _ _ _).2 ⟨hp, hx⟩, hk⟩
theorem Sat.hex_iff {α : Type} {F : α → HProp} : Sat W w (hex F * R) ↔ ∃ x, Sat W w (F x * R) := by
  rw [hex_star]
  constructor
  · rintro ⟨a, b, c, x, ⟨y, hy⟩, hk⟩; exact ⟨y, a, b, c, x, hy, hk⟩
  · rintro ⟨y, a, b, c, x, hy, hk⟩; exact ⟨a, b, c, x, ⟨y, hy⟩, hk⟩

/-- What only changes the block b, and makes new ones. -/
theorem Sat.upd {w' : World} (h : Sat W w (blk b o * R)) (hos : w'.os = w.os) (ht : w'.tape = w.tape) (hout : w'.output = w.output)
    (hb : w'.heap[b]? = some o') (hk : ∀ k, k < w.heap.size → k ≠ b → w'.heap[k]? = w.heap[k]?) : Sat W w' (blk b o' * R) := by
  obtain ⟨h1, h2, h3, x, ⟨x1, x2, rfl, hr, hd, rfl⟩, hx⟩ := h
  refine ⟨hos.trans h1, ht.trans h2, hout.trans h3, _, ⟨_, x2, rfl, hr, fun k => ?_, rfl⟩, fun k p hp => ?_⟩
  · rcases hd k with h | h
    · left
      by_cases e : k = b
      · simp [e] at h
      · simp [e]
    · exact .inr h
  · by_cases e : k = b
    · subst e
      simp [Part.join] at hp
      rw [hb, hp]
    · simp [Part.join, e] at hp
      have hq := hx k p (by simp [Part.join, e, hp])
      rw [hk k (Array.getElem?_eq_some_iff.1 hq).1 e, hq]
/-- What changes nothing that is held, and makes new blocks. -/
theorem Sat.keep {w' : World} (h : Sat W w R) (hos : w'.os = w.os) (ht : w'.tape = w.tape) (hout : w'.output = w.output)
    (hk : ∀ k, k < w.heap.size → w'.heap[k]? = w.heap[k]?) : Sat W w' R := by
  obtain ⟨h1, h2, h3, x, hr, hx⟩ := h
  refine ⟨hos.trans h1, ht.trans h2, hout.trans h3, x, hr, fun k p hp => ?_⟩
  have hq := hx k p hp
  rw [hk k (Array.getElem?_eq_some_iff.1 hq).1, hq]
theorem Sat.fresh {w' : World} (h : Sat W w R) (hos : w'.os = w.os) (ht : w'.tape = w.tape) (hout : w'.output = w.output)
    (hk : ∀ k, k < w.heap.size → w'.heap[k]? = w.heap[k]?) (hb : w.heap.size ≤ b) (hbo : w'.heap[b]? = some o) : Sat W w' (blk b o * R) := by
  obtain ⟨h1, h2, h3, x, hr, hx⟩ := h
  refine ⟨hos.trans h1, ht.trans h2, hout.trans h3, _, ⟨_, x, rfl, hr, fun k => ?_, rfl⟩, fun k p hp => ?_⟩
  · by_cases e : k = b
    · right
      cases hxk : x k with
      | none => rfl
      | some p => have := (Array.getElem?_eq_some_iff.1 (hx k p hxk)).1; omega
    · left; simp [e]
  · by_cases e : k = b
    · subst e
      simp [Part.join] at hp
      rw [hbo, hp]
    · simp [Part.join, e] at hp
      have hq := hx k p hp
      rw [hk k (Array.getElem?_eq_some_iff.1 hq).1, hq]
theorem Sat.below {w' : World} (h : Sat W w R) (hb : Below w.heap.size w w') : Sat W w' R := h.keep hb.os hb.tape hb.output hb.block
theorem Sat.drew (h : Sat W w R) : Sat W w.drew R := ⟨h.os, h.tape, h.output, h.part⟩
theorem Sat.drewN (h : Sat W w R) (n : Nat) : Sat W (w.drewN n) R := ⟨h.os, h.tape, h.output, h.part⟩
theorem Sat.alloc (h : Sat W w R) (o : Obj) : Sat W (w.alloc o) (blk w.heap.size o * R) :=
  h.fresh rfl rfl rfl (fun k hk => Below.heap_alloc w o k hk) (Nat.le_refl _) (heap_alloc_new w o)
theorem Sat.alloc_keep (h : Sat W w R) (o : Obj) : Sat W (w.alloc o) R := (h.alloc o).right
theorem heap_setCell_at {w : World} {b i : Nat} {c : Array Value} {e : TypeId} {f : Nat × Nat} {v : Value} (h : w.heap[b]? = some (.cells c e f)) :
    (w.setCell ⟨b, i, none⟩ v).heap[b]? = some (.cells (c.setIfInBounds i v) e f) := by
  simp [World.setCell, Array.getElem?_modify, h]
theorem Sat.setCell {i : Nat} {c : Array Value} {e : TypeId} {f : Nat × Nat} (h : Sat W w (blk b (.cells c e f) * R)) (v : Value) :
    Sat W (w.setCell ⟨b, i, none⟩ v) (blk b (.cells (c.setIfInBounds i v) e f) * R) :=
  h.upd rfl rfl rfl (heap_setCell_at h.block) (fun k _ hk => Below.heap_setCell _ _ _ _ hk)
theorem Sat.cell {i : Nat} {c : Array Value} {e : TypeId} {f : Nat × Nat} (h : Sat W w (blk b (.cells c e f) * R)) : w.cell? ⟨b, i, none⟩ = c[i]? := by
  have hb := h.block
  simp [World.cell?, hb]
theorem Sat.free {i : Nat} {c : Array Value} {e : TypeId} (h : Sat W w (blk b (.cells c e (0, 0)) * R)) : w.frozen? ⟨b, i, none⟩ = false := by
  have hb := h.block
  simp only [World.frozen?, hb]
  simp
/-- At the end: of what was there at the begin nothing has turned. -/
theorem Sat.ends (h : Sat W w (Old W * R)) : Below W.heap.size W w := by
  obtain ⟨h1, h2, h3, x, rfl, hx⟩ := h.left
  have hb : ∀ k, k < W.heap.size → w.heap[k]? = W.heap[k]? := fun k hk => by
    rw [hx k _ (Array.getElem?_eq_getElem hk), Array.getElem?_eq_getElem hk]
  refine ⟨h1, h2, h3, ?_, hb⟩
  rcases Nat.eq_zero_or_pos W.heap.size with hz | hz
  · omega
  · have hq := hb (W.heap.size - 1) (by omega)
    rw [Array.getElem?_eq_getElem (by omega : W.heap.size - 1 < W.heap.size)] at hq
    have := (Array.getElem?_eq_some_iff.1 hq).1
    omega
theorem Sat.old_cell (h : Sat W w (Old W * R)) {a : Addr} {v : Value} (hc : W.cell? a = some v) : w.cell? a = some v := by
  rw [← hc]
  exact World.cell?_of_block (h.ends.block _ (World.block_lt_of_cell? W a hc))
end
/-! A function of the text is entered by its call. -/
def Enters (P : Program) (f : FuncId) : Prop := ∀ args w, (callFunc f args).run P w = .ok (.enter f args) w
theorem entersOf {P : Program} {f : FuncId} {fn : Func} (hf : P.funcs[f]? = some fn) (hn : (fn.name == "runtime.NumGoroutine") = false) (hb : fn.body.isNone = false) : Enters P f := by
  intro args w
  simp [callFunc, hf]
  rw [if_neg (by simpa using hn), if_neg (by intro h; rw [h] at hb; cases hb)]
/-! Endings. -/
theorem val_int {k : IntKind} {a b : Int} (h : a = b) : Value.int k a = Value.int k b := by rw [h]
theorem val_bool {a b : Bool} (h : a = b) : Value.bool a = Value.bool b := by rw [h]
theorem ret1 {a b : Value} (h : a = b) : Ending.returned a = Ending.returned b := by rw [h]
theorem ret2 {a b c d : Value} (h : a = c) (h2 : b = d) : Ending.returned (.tuple #[a, b]) = Ending.returned (.tuple #[c, d]) := by rw [h, h2]
theorem ret3 {a b c d e f : Value} (h : a = d) (h2 : b = e) (h3 : c = f) : Ending.returned (.tuple #[a, b, c]) = Ending.returned (.tuple #[d, e, f]) := by rw [h, h2, h3]
end Go.Lamp
