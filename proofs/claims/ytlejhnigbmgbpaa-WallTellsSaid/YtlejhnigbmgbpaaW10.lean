import Derived.Test.YtlejhnigbmgbpaaW9
namespace Go.Proofs.Ytlejhnigbmgbpaa
open Go.RowKit Go.Lamp

theorem rising_sub {ls ms : List Ln} (h : Rising ls) (hs : ms.Sublist ls) : Rising ms := List.Pairwise.sublist hs h
theorem rising_set {ls : List Ln} (h : Rising ls) {i : Nat} (hi : i < ls.length) (l : Ln) (hl : l.item = ls[i].item) : Rising (ls.set i l) := by
  unfold Rising at *
  rw [List.pairwise_iff_getElem] at *
  intro a b ha hb hab
  simp only [List.length_set] at ha hb
  have := h a b ha hb hab
  simp only [List.getElem_set]
  split <;> split
  · omega
  · rename_i h1 h2; subst h1; rw [hl]; exact this
  · rename_i h1 h2; subst h2; rw [hl]; exact this
  · exact this
theorem Cub.put_ok {c : Cub} (h : c.Ok) (item qty : Int) (hc : c.held = true) : (c.put item qty).2.Ok := by
  unfold Cub.put
  split
  · rename_i hf
    obtain ⟨hi, hit⟩ := found_get hf
    rw [List.getElem?_eq_getElem hi]
    have hl := h.each _ (List.getElem_mem hi)
    simp only
    split
    · exact h
    · split
      · exact h
      · split
        · exact ⟨rising_sub h.rising (List.eraseIdx_sublist ..), by have := h.many; simp only [List.length_eraseIdx]; split <;> omega, fun l hl => h.each l (List.mem_of_mem_eraseIdx hl), fun hh => by simp [hc] at hh⟩
        · refine ⟨rising_set h.rising hi _ rfl, by simpa using h.many, fun l hl2 => ?_, fun hh => by simp [hc] at hh⟩
          rcases List.mem_or_eq_of_mem_set hl2 with h3 | rfl
          · exact h.each l h3
          · obtain ⟨a, b, c, d⟩ := hl
            refine ⟨a, b, ?_, ?_⟩ <;> simp only <;> omega
  · exact h

def putM (cubs : List Cub) (n item qty : Int) : Int × List Cub := match heldAt cubs n with
  | some c => ((c.put item qty).1, cubs.set n.toNat (c.put item qty).2)
  | none => (6, cubs)
theorem WallOk.set {cubs : List Cub} (h : WallOk cubs) (k : Nat) {c : Cub} (hc : c.Ok) : WallOk (cubs.set k c) := by
  refine ⟨by simpa using h.1, by simpa using h.2.1, fun x hx => ?_⟩
  rcases List.mem_or_eq_of_mem_set hx with h3 | rfl
  · exact h.2.2 x h3
  · exact hc
theorem putM_ok {cubs : List Cub} (h : WallOk cubs) (n item qty : Int) : WallOk (putM cubs n item qty).2 := by
  unfold putM
  split
  · rename_i c hh
    obtain ⟨k, hk, rfl, rfl, hheld⟩ := heldAt_some hh
    exact h.set _ (Cub.put_ok (h.2.2 _ (List.getElem_mem hk)) item qty hheld)
  · exact h

def WallPost (W : World) (p : Nat) (R : HProp) (cubs : List Cub) (v : Value) (en : Ending) (w' : World) : Prop :=
  en = .returned v ∧ Sat W w' (WallH p cubs * R)

set_option maxHeartbeats 400000 in
theorem Put_calls {W w : World} {p : Nat} {cubs : List Cub} {R : HProp} (n item qty : Int) (hs : Sat W w (WallH p cubs * R)) (hq : -9223372036854775808 ≤ qty) :
    Calls Try.prog 15 #[.pointer (some ⟨p, 0, none⟩), .int .i64 n, .int .u16 item, .int .i64 qty] w (WallPost W p R (putM cubs n item qty).2 (.int .i64 (putM cubs n item qty).1)) := by
  obtain ⟨bl, gs, rfl, hok, hb⟩ := WallH.open hs
  have h1 := WallB.top hb
  have hat := WallB.at hb
  have hl : gs.length ≤ 16 := by simpa using hok.2.1
  have HC := Lib.hid (at_calls p bl gs n w hl h1 hat)
  have HOk' := Lib.hid (putM_ok hok n item qty)
  cases hh : heldAt (gs.map (·.1)) n with
  | none =>
    have HA : Hid (atV bl (gs.map (·.1)) n = .pointer none) := atV_none hh
    have HO : Hid (putM (gs.map (·.1)) n item qty = (6, gs.map (·.1))) := by unfold Hid putM; rw [hh]
    clear hb hok hat hh h1 hq
    rw [HO.out]
    rw [HA.out] at HC
    go_enter Try.func15, Try.ntmps15
    go_wp2_with fail
    refine HC.out.mono ?_
    rintro e w' ⟨rfl, rfl⟩
    go_wp2_with fail
    go_ret
    exact ⟨rfl, hs⟩
  | some c =>
    obtain ⟨k, hk, rfl, rfl, hheld⟩ := heldG hh
    have HA : Hid (atV bl (gs.map (·.1)) k = .pointer (some ⟨bl, k * 3, none⟩)) := atV_some (by simpa using hk) (by simpa using hheld)
    have HO : Hid (putM (gs.map (·.1)) k item qty = ((gs[k].1.put item qty).1, (gs.map (·.1)).set k (gs[k].1.put item qty).2)) := by unfold Hid putM; rw [hh]; simp
    have HF := Lib.hid (put_calls k item qty hok hk hb hq)
    clear hs hb hok hat hh h1 hheld hq
    rw [HO.out] at HOk' ⊢
    rw [HA.out] at HC
    go_enter Try.func15, Try.ntmps15
    go_wp2_with fail
    refine HC.out.mono ?_
    rintro e w' ⟨rfl, rfl⟩
    go_wp2_with fail
    refine HF.out.mono ?_
    rintro e w1 ⟨rfl, gs', hgs, hs1⟩
    have HGs := Lib.hid hgs
    clear hgs
    go_wp2_with fail
    go_ret
    exact ⟨rfl, WallH.shut hs1 HGs.out HOk'.out⟩

def lessM (cubs : List Cub) (order item qty : Int) : Int × List Cub := if 0 ≤ firstIdx (isOf order) cubs then putM cubs (firstIdx (isOf order) cubs) item qty else (6, cubs)

set_option maxHeartbeats 400000 in
theorem Less_calls {W w : World} {p : Nat} {cubs : List Cub} {R : HProp} (order item qty : Int) (hs : Sat W w (WallH p cubs * R)) (hq : -9223372036854775808 ≤ qty) :
    Calls Try.prog 16 #[.pointer (some ⟨p, 0, none⟩), .int .u32 order, .int .u16 item, .int .i64 qty] w (WallPost W p R (lessM cubs order item qty).2 (.int .i64 (lessM cubs order item qty).1)) := by
  have HC := Lib.hid (cubby_calls order hs)
  have HP := fun (w1 : World) (hs1 : Sat W w1 (WallH p cubs * R)) => Lib.hid (Put_calls (firstIdx (isOf order) cubs) item qty hs1 hq)
  have HPP := Lib.hid HP
  clear HP hq
  unfold lessM
  by_cases h : 0 ≤ firstIdx (isOf order) cubs
  · have HB : Hid (cubbyM cubs order = (firstIdx (isOf order) cubs, true)) := by unfold Hid cubbyM; rw [Int.max_eq_left h]; simp [h]
    rw [HB.out] at HC
    rw [if_pos h]
    generalize firstIdx (isOf order) cubs = i at *
    clear h
    go_enter Try.func16, Try.ntmps16
    go_wp2_with fail
    refine HC.out.mono ?_
    rintro e w1 ⟨rfl, hb1⟩
    go_wp2_with fail
    refine ((HPP.out w1 (hs.below hb1)).out).mono ?_
    rintro e w2 ⟨rfl, hs2⟩
    go_wp2_with fail
    go_ret
    exact ⟨rfl, hs2⟩
  · have HB : Hid (cubbyM cubs order = (0, false)) := by unfold Hid cubbyM; rw [Int.max_eq_right (by omega)]; simp; omega
    rw [HB.out] at HC
    rw [if_neg h]
    clear h
    go_enter Try.func16, Try.ntmps16
    go_wp2_with fail
    refine HC.out.mono ?_
    rintro e w1 ⟨rfl, hb1⟩
    go_wp2_with fail
    go_ret
    exact ⟨rfl, hs.below hb1⟩
end Go.Proofs.Ytlejhnigbmgbpaa
