import Derived.Test.YtlejhnigbmgbpaaW10
import Derived.Deep.QuietTactic
import Derived.BigQuiet
namespace Go.Proofs.Ytlejhnigbmgbpaa
open Go.RowKit Go.Lamp

def hasItem (item : Int) (c : Cub) : Bool := foundAt c.needs item
def scanM (cubs : List Cub) (item : Int) : Int × Int × Int := match cubs.findIdx? (hasItem item) with
  | some k => match cubs[k]? with
    | some c => match c.needs[lower c.needs item]? with
      | some l => (k, l.qty, 0)
      | none => (0, 0, 11)
    | none => (0, 0, 11)
  | none => (0, 0, 11)
theorem findIdx_at {α : Type} {f : α → Bool} {l : List α} {k : Nat} (hk : k < l.length) (h : ∀ j (hj : j < l.length), j < k → f l[j] = false) (hf : f l[k] = true) : l.findIdx? f = some k := by
  rw [List.findIdx?_eq_some_iff_getElem]
  exact ⟨hk, hf, fun j hj => by simp [h j (by omega) hj]⟩
theorem findIdx_none {α : Type} {f : α → Bool} {l : List α} (h : ∀ j (hj : j < l.length), f l[j] = false) : l.findIdx? f = none := by
  rw [List.findIdx?_eq_none_iff]
  intro x hx
  obtain ⟨j, hj, rfl⟩ := List.getElem_of_mem hx
  exact h j hj

set_option maxHeartbeats 400000 in
theorem Scan_calls {W w : World} {p : Nat} {cubs : List Cub} {R : HProp} (item : Int) (hs : Sat W w (WallH p cubs * R)) :
    Calls Try.prog 20 #[.pointer (some ⟨p, 0, none⟩), .int .u16 item] w fun e w' =>
      e = .returned (.tuple #[.int .i64 (scanM cubs item).1, .int .i64 (scanM cubs item).2.1, .int .i64 (scanM cubs item).2.2]) ∧ Below w.heap.size w w' := by
  obtain ⟨bl, gs, rfl, hok, hb⟩ := WallH.open hs
  have h1 := WallB.top hb
  have hl : gs.length ≤ 16 := by simpa using hok.2.1
  have HB := Lib.hid hb
  have HOk := Lib.hid hok
  have hltp := World.block_lt_of_cell? w _ h1
  simp only at hltp
  clear hs hb hok
  go_enter Try.func20, Try.ntmps20
  go_wp2_with fail
  go_loopw [7, 8, 9, 15, 18] (fun _ _ _ vi _ wr => ∃ i : Nat, i ≤ gs.length ∧ vi = .int .i64 i ∧ Below w.heap.size w wr ∧ (∀ j (hj : j < gs.length), j < i → hasItem item gs[j].1 = false)) (fun _ _ _ vi _ _ => (gs.length - intOf vi).toNat)
  case atStart => exact ⟨0, Nat.zero_le _, rfl, Below.refl _ _, fun j hj h => by omega⟩
  case round =>
    obtain ⟨i, hi, rfl, hbw, hno⟩ := hrel
    have HNo := Lib.hid hno
    clear hno
    by_cases hlt : i < gs.length
    · have hbr := HB.out.below hbw
      obtain ⟨hc0, hc1, hc2⟩ := WallB.at hbr i hlt
      have h1r := WallB.top hbr
      have hrow := WallB.need hbr hlt
      have hc := HOk.out.2.2 gs[i].1 (List.mem_map.2 ⟨gs[i], List.getElem_mem hlt, rfl⟩)
      have HP := Lib.hid (place_calls bl (i * 3) item hrow hc.rising (by have := hc.many; omega) hc2)
      have hltb := World.block_lt_of_cell? wr _ hc2
      have hltp := World.block_lt_of_cell? wr _ h1r
      simp only at hltb hltp
      obtain ⟨bi, ci, hn, hv, hcap, hmax, hat⟩ := LnAt.of_row hrow
      have HAt := Lib.hid hat
      have HV := Lib.hid hv
      have HMany := Lib.hid hc.many
      clear hrow hc hn hat hv hmax hbr
      go_wp2_with fail
      refine HP.out.mono ?_
      rintro e w1 ⟨rfl, hb1⟩
      cases hf : foundAt gs[i].1.needs item
      · have HF := Lib.hid hf
        clear hf
        go_wp2_with fail
        go_roundw
        case rel =>
          refine ⟨i + 1, by omega, by go_num, hbw.trans (hb1.mono hbw.size), fun j hj h => ?_⟩
          rcases Nat.lt_or_ge j i with h2 | h2
          · exact HNo.out j hj h2
          · have : j = i := by omega
            subst this; exact HF.out
        case measure => simp [intOf]; omega
      · obtain ⟨hi', hit⟩ := found_get hf
        have HF := Lib.hid hf
        have hsc : Hid (scanM (gs.map (·.1)) item = ((i : Int), gs[i].1.needs[lower gs[i].1.needs item].qty, 0)) := by
          unfold Hid scanM
          rw [findIdx_at (k := i) (by simpa using hlt) (fun j hj hji => by simpa using HNo.out j (by simpa using hj) hji) (by simpa [hasItem] using hf)]
          simp only [List.getElem?_map, List.getElem?_eq_getElem hlt, Option.map_some, List.getElem?_eq_getElem hi']
        generalize hig : lower gs[i].1.needs item = k at *
        have h1w : w1.cell? ⟨p, 0, none⟩ = _ := (hb1.cell (p := ⟨p, 0, none⟩) hltp).trans h1r
        have h2w : w1.cell? ⟨bl, i * 3 + 2, none⟩ = _ := (hb1.cell (p := ⟨bl, i * 3 + 2, none⟩) hltb).trans hc2
        rcases HV.out with hv | ⟨_, h0⟩
        · have hv' : Value.slice (gs[i].2.1.map fun b => ⟨b, 0, none⟩) gs[i].1.needs.length gs[i].2.2 = .slice (some ⟨bi, 0, none⟩) gs[i].1.needs.length ci := hv
          rw [hv'] at h2w hc2
          obtain ⟨_, _, hq⟩ := (HAt.out.below hb1) k hi'
          have k1 : (k : Int) < gs[i].1.needs.length := by omega
          have k2 : (0 : Int) ≤ k := by omega
          have k3 : (i : Int) < gs.length := by omega
          have k4 : (0 : Int) ≤ i := by omega
          have HIg := Lib.hid hig
          clear hf hv hv' hit hig
          go_wp2_with fail
          go_quiet (fail)
          go_wp2_with fail
          go_ret3
          exact ⟨by rw [hsc.out]; rfl, (hbw.trans (hb1.mono hbw.size)).trans ⟨rfl, rfl, rfl, Nat.le_refl _, fun _ _ => rfl⟩⟩
        · omega
    · have hsc : Hid (scanM (gs.map (·.1)) item = (0, 0, 11)) := by
        unfold Hid scanM
        rw [findIdx_none (fun j hj => by simpa using HNo.out j (by simpa using hj) (by simp at hj; omega))]
      go_wp2_with fail
      go_ret3
      exact ⟨by rw [hsc.out]; rfl, hbw⟩
end Go.Proofs.Ytlejhnigbmgbpaa
