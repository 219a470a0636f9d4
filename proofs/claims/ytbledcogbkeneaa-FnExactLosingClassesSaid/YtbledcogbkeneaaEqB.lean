/- Equality of rows of bools: slices.Equal and the reference's own, by contracts. Conditions: none. -/
import Derived.Test.YtbledcogbkeneaaBl
namespace Go.Proofs.Ytbledcogbkeneaa
open Go.RowKit
set_option linter.unusedVariables false

set_option maxHeartbeats 400000 in
theorem equalBl_any (A A' : Option Addr) (c c' : Nat) (xs ys : List Bool) (w : World) (B : Nat) (hB : B ≤ w.heap.size) (h : RdB w B A c xs) (h' : RdB w B A' c' ys) :
    Calls Try.prog 41 #[.slice A xs.length c, .slice A' ys.length c'] w fun e w' => e = .returned (.bool (decide (xs = ys))) ∧ Below w.heap.size w w' := by
  have h1 := h.len
  have h2 := h.max
  have h3 := h'.len
  have h4 := h'.max
  by_cases hl : xs.length = ys.length
  · have hne : ((xs.length : Int) != (ys.length : Int)) = false := by simp [hl]
    have HL := Lib.hid hl; clear hl
    go_enter Try.func41, Try.ntmps41
    go_wp2
    go_loopw [13] (fun i wr => ∃ k : Nat, i = .int .i64 k ∧ k ≤ xs.length ∧ (∀ j, j < k → gb xs j = gb ys j) ∧ Below w.heap.size w wr)
      (fun i _ => xs.length - (intOf i).toNat)
    case atStart => exact ⟨0, rfl, by omega, fun j hj => absurd hj (by omega), Below.refl _ _⟩
    case round =>
      obtain ⟨k, rfl, hk, hs, hb⟩ := hrel
      have HS := Lib.hid hs; clear hs
      by_cases hlt : k < xs.length
      · have hlt' : k < ys.length := by rw [← HL.out]; exact hlt
        obtain ⟨b, o, rfl, hbB, hc⟩ := (h.below hb hB).at (j := k) hlt
        obtain ⟨b', o', rfl, hbB', hc'⟩ := (h'.below hb hB).at (j := k) hlt'
        have hc1 := hc k hlt
        have hc2 := hc' k hlt'
        clear hc hc'
        by_cases he : gb xs k = gb ys k
        · rw [← he] at hc2
          have HE := Lib.hid he; clear he
          generalize gb xs k = u at hc1 hc2
          go_wp2
          go_quiet (fail)
          go_wp2
          go_roundw
          case rel => exact ⟨k + 1, by go_num, by omega, fun j hj => if hjk : j = k then by subst hjk; exact HE.out else HS.out j (by omega), bdrew hb _⟩
          case measure => simp [intOf]; omega
        · have HE : Hid (¬ xs = ys) := Lib.hid fun h => he (by rw [h])
          have hxu : ∃ x y : Bool, gb xs k = x ∧ gb ys k = y := ⟨_, _, rfl, rfl⟩
          obtain ⟨x, y, hx, hy⟩ := hxu
          rw [hx, hy] at he
          rw [hx] at hc1
          rw [hy] at hc2
          clear hx hy
          cases x <;> cases y
          all_goals first
            | exact absurd rfl he
            | (clear he
               go_wp2
               go_quiet (fail)
               go_wp2
               go_ret
               refine ⟨ret_bool ?_, bdrew hb _⟩
               rw [Bool.false_eq, decide_eq_false_iff_not]
               exact HE.out)
      · go_wp2
        go_ret
        refine ⟨ret_bool ?_, hb⟩
        rw [Bool.true_eq, decide_eq_true_eq]
        refine List.ext_getElem HL.out fun j hj hj' => ?_
        have := HS.out j (by omega)
        simpa [gb, hj, hj'] using this
  · have hne : ((xs.length : Int) != (ys.length : Int)) = true := by simp; omega
    have hxy : ¬ xs = ys := fun h => hl (by rw [h])
    go_enter Try.func41, Try.ntmps41
    go_wp2
    go_ret
    exact ⟨by simp [hxy], Below.refl _ _⟩
set_option maxHeartbeats 400000 in
theorem sameBl_any (A A' : Option Addr) (c c' : Nat) (xs ys : List Bool) (w : World) (B : Nat) (hB : B ≤ w.heap.size) (hl : xs.length = ys.length) (h : RdB w B A c xs) (h' : RdB w B A' c' ys) :
    Calls Try.prog 40 #[.slice A xs.length c, .slice A' ys.length c'] w fun e w' => e = .returned (.bool (decide (xs = ys))) ∧ Below w.heap.size w w' := by
  have h1 := h.len
  have h2 := h.max
  have h3 := h'.len
  have h4 := h'.max
  have HL := Lib.hid hl; clear hl
  go_enter Try.func40, Try.ntmps40
  go_wp2
  go_loopw [5] (fun i wr => ∃ k : Nat, i = .int .i64 k ∧ k ≤ xs.length ∧ (∀ j, j < k → gb xs j = gb ys j) ∧ Below w.heap.size w wr)
    (fun i _ => xs.length - (intOf i).toNat)
  case atStart => exact ⟨0, rfl, by omega, fun j hj => absurd hj (by omega), Below.refl _ _⟩
  case round =>
    obtain ⟨k, rfl, hk, hs, hb⟩ := hrel
    have HS := Lib.hid hs; clear hs
    by_cases hlt : k < xs.length
    · have hlt' : k < ys.length := by rw [← HL.out]; exact hlt
      obtain ⟨b, o, rfl, hbB, hc⟩ := (h.below hb hB).at (j := k) hlt
      obtain ⟨b', o', rfl, hbB', hc'⟩ := (h'.below hb hB).at (j := k) hlt'
      have hc1 := hc k hlt
      have hc2 := hc' k hlt'
      clear hc hc'
      by_cases he : gb xs k = gb ys k
      · rw [← he] at hc2
        have HE := Lib.hid he; clear he
        generalize gb xs k = u at hc1 hc2
        go_wp2
        go_quiet (fail)
        go_wp2
        go_roundw
        case rel => exact ⟨k + 1, by go_num, by omega, fun j hj => if hjk : j = k then by subst hjk; exact HE.out else HS.out j (by omega), bdrew hb _⟩
        case measure => simp [intOf]; omega
      · have HE : Hid (¬ xs = ys) := Lib.hid fun h => he (by rw [h])
        have hxu : ∃ x y : Bool, gb xs k = x ∧ gb ys k = y := ⟨_, _, rfl, rfl⟩
        obtain ⟨x, y, hx, hy⟩ := hxu
        rw [hx, hy] at he
        rw [hx] at hc1
        rw [hy] at hc2
        clear hx hy
        cases x <;> cases y
        all_goals first
          | exact absurd rfl he
          | (clear he
             go_wp2
             go_quiet (fail)
             go_wp2
             go_ret
             refine ⟨ret_bool ?_, bdrew hb _⟩
             rw [Bool.false_eq, decide_eq_false_iff_not]
             exact HE.out)
    · go_wp2
      go_ret
      refine ⟨ret_bool ?_, hb⟩
      rw [Bool.true_eq, decide_eq_true_eq]
      refine List.ext_getElem HL.out fun j hj hj' => ?_
      have := HS.out j (by omega)
      simpa [gb, hj, hj'] using this

end Go.Proofs.Ytbledcogbkeneaa
