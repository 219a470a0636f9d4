/- The reference's lists of lists: comparing, putting to place, moves of a heap, by contracts. Conditions: none. -/
import Derived.Test.YtbledcogbkeneaaLM
import Derived.Test.YtbledcogbkeneaaCode
import Derived.Test.YtbledcogbkeneaaBits
import Derived.Test.YtbledcogbkeneaaRowsG
import Derived.Deep.LoopGhost
import Derived.Deep.DeepCutAuto
import Derived.Deep.CutBlock
import Derived.Deep.RegionHeld3
namespace Go.Proofs.Ytbledcogbkeneaa
open Go.RowKit
set_option linter.unusedVariables false

theorem bit1_any (d : Int) (w : World) (hd : 0 ≤ d ∧ d ≤ 7) :
    Calls Try.prog 75 #[.int .i64 d, .int .i64 1] w fun e w' => e = .returned (.bool (decide (d % 2 = 1))) ∧ w = w' := by
  obtain ⟨h1, h2⟩ := hd
  have h3 : 0 ≤ d / 1 := by simp; omega
  go_enter Try.func75, Try.ntmps75
  go_wp2
  go_ret
  exact ⟨ret_bool (by rw [Bool.eq_iff_iff]; simp), rfl⟩
theorem bit2_any (d : Int) (w : World) (hd : 0 ≤ d ∧ d ≤ 7) :
    Calls Try.prog 75 #[.int .i64 d, .int .i64 2] w fun e w' => e = .returned (.bool (decide (d / 2 % 2 = 1))) ∧ w = w' := by
  obtain ⟨h1, h2⟩ := hd
  have h3 : 0 ≤ d / 2 := by omega
  go_enter Try.func75, Try.ntmps75
  go_wp2
  go_ret
  exact ⟨ret_bool (by rw [Bool.eq_iff_iff]; simp), rfl⟩
theorem bit4_any (d : Int) (w : World) (hd : 0 ≤ d ∧ d ≤ 7) :
    Calls Try.prog 75 #[.int .i64 d, .int .i64 4] w fun e w' => e = .returned (.bool (decide (d / 4 % 2 = 1))) ∧ w = w' := by
  obtain ⟨h1, h2⟩ := hd
  have h3 : 0 ≤ d / 4 := by omega
  go_enter Try.func75, Try.ntmps75
  go_wp2
  go_ret
  exact ⟨ret_bool (by rw [Bool.eq_iff_iff]; simp), rfl⟩

set_option maxHeartbeats 400000 in
theorem l1Has_any (A : Option Addr) (c : Nat) (xs : List Int) (x : Int) (w : World) (B : Nat) (h : RdI w B A c xs) :
    Calls Try.prog 77 #[.slice A xs.length c, .int .i64 x] w fun e w' => e = .returned (.bool (decide (x ∈ xs))) ∧ w = w' := by
  have h1 := h.len
  have h2 := h.max
  go_enter Try.func77, Try.ntmps77
  go_wp2
  go_loop [5] (fun i => ∃ k : Nat, i = .int .i64 k ∧ k ≤ xs.length ∧ ∀ j, j < k → gi xs j ≠ x) (fun i => xs.length - (intOf i).toNat)
  case atStart => exact ⟨0, rfl, by omega, fun j hj => absurd hj (by omega)⟩
  case round =>
    obtain ⟨k, rfl, hk, hs⟩ := hrel
    have HS := Lib.hid hs; clear hs
    by_cases hlt : k < xs.length
    · obtain ⟨b, o, rfl, hbB, hc⟩ := h.at (j := k) hlt
      have hc1 := hc k hlt
      clear hc
      by_cases he : gi xs k = x
      · have ht : (gi xs k == x) = true := by simp [he]
        have HE := Lib.hid he; clear he
        go_wp2
        go_ret
        refine ⟨ret_bool ?_, rfl⟩
        rw [Bool.true_eq, decide_eq_true_eq, ← HE.out, gi, List.getD_eq_getElem?_getD, List.getElem?_eq_getElem hlt]
        exact List.getElem_mem hlt
      · have ht : (gi xs k == x) = false := by simp [he]
        have HE := Lib.hid he; clear he
        go_wp2
        go_round
        case rel => exact ⟨k + 1, by go_num, by omega, fun j hj => if hjk : j = k then by subst hjk; exact HE.out else HS.out j (by omega)⟩
        case measure => simp [intOf]; omega
    · go_wp2
      go_ret
      refine ⟨ret_bool ?_, rfl⟩
      rw [Bool.false_eq, decide_eq_false_iff_not]
      intro hm
      obtain ⟨j, hj, hj'⟩ := List.getElem_of_mem hm
      exact HS.out j (by omega) (by rw [gi, List.getD_eq_getElem?_getD, List.getElem?_eq_getElem hj]; exact hj')

set_option maxHeartbeats 400000 in
theorem l3List_any (A A' : Option Addr) (c c' : Nat) (xs ys : List Int) (w : World) (B : Nat) (hB : B ≤ w.heap.size) (h : RdI w B A c xs) (h' : RdI w B A' c' ys) :
    Calls Try.prog 85 #[.slice A xs.length c, .slice A' ys.length c'] w fun e w' => e = .returned (.int .i64 (cmpL xs ys)) ∧ Below w.heap.size w w' := by
  have h1 := h.len
  have h2 := h.max
  have h3 := h'.len
  have h4 := h'.max
  go_enter Try.func85, Try.ntmps85
  go_wp2
  go_loopw [5] (fun i wr => ∃ k : Nat, i = .int .i64 k ∧ k ≤ xs.length ∧ k ≤ ys.length ∧ (∀ j, j < k → gi xs j = gi ys j) ∧ Below w.heap.size w wr) (fun i _ => xs.length - (intOf i).toNat)
  case atStart => exact ⟨0, rfl, by omega, by omega, fun j hj => absurd hj (by omega), Below.refl _ _⟩
  case round =>
    obtain ⟨k, rfl, hk, hk', hs, hb⟩ := hrel
    have HS := Lib.hid hs; clear hs
    by_cases hlt : k < xs.length ∧ k < ys.length
    · obtain ⟨hlt, hlt'⟩ := hlt
      obtain ⟨b, o, rfl, hbB, hc⟩ := (h.below hb hB).at (j := k) hlt
      obtain ⟨b', o', rfl, hbB', hc'⟩ := (h'.below hb hB).at (j := k) hlt'
      have hc1 := hc k hlt
      have hc2 := hc' k hlt'
      clear hc hc'
      by_cases he : gi xs k = gi ys k
      · have ht : (gi xs k != gi ys k) = false := by simp [he]
        have HE := Lib.hid he; clear he
        go_wp2
        go_quiet (fail)
        go_wp2
        go_roundw
        case rel => exact ⟨k + 1, by go_num, by omega, by omega, fun j hj => if hjk : j = k then by subst hjk; exact HE.out else HS.out j (by omega), bdrew hb _⟩
        case measure => simp [intOf]; omega
      · have ht : (gi xs k != gi ys k) = true := by simp [he]
        have HE : Hid (cmpL xs ys = if gi xs k < gi ys k then -1 else 1) := cmpL_at xs ys k hlt hlt' HS.out he
        clear he
        by_cases hl : gi xs k < gi ys k
        · rw [if_pos hl] at HE
          go_wp2
          go_quiet (fail)
          go_wp2
          go_quiet (fail)
          go_wp2
          go_ret
          exact ⟨ret_i64 HE.out.symm, bdrew (bdrew hb _) _⟩
        · rw [if_neg hl] at HE
          have hd : decide (gi xs k < gi ys k) = false := by simp; omega
          go_wp2
          go_quiet (fail)
          go_wp2
          go_quiet (fail)
          go_wp2
          go_ret
          exact ⟨ret_i64 HE.out.symm, bdrew (bdrew hb _) _⟩
    · have HE : Hid (cmpL xs ys = if xs.length < ys.length then -1 else if ys.length < xs.length then 1 else 0) := cmpL_end xs ys k hk hk' (by omega) HS.out
      rcases Nat.lt_trichotomy xs.length ys.length with hl | hl | hl
      · rw [if_pos hl] at HE
        have hkk : ¬ k < xs.length := by omega
        clear hlt
        go_wp2
        go_ret
        exact ⟨ret_i64 HE.out.symm, hb⟩
      · rw [if_neg (by omega), if_neg (by omega)] at HE
        have hkk : ¬ k < xs.length := by omega
        have h5 : ¬ xs.length < ys.length := by omega
        have h6 : ¬ ys.length < xs.length := by omega
        clear hlt hl
        go_wp2
        go_ret
        exact ⟨ret_i64 HE.out.symm, hb⟩
      · rw [if_neg (by omega), if_pos hl] at HE
        have hkk : ¬ k < ys.length := by omega
        clear hlt
        have hkx : k < xs.length := by omega
        go_wp2
        go_ret
        exact ⟨ret_i64 HE.out.symm, hb⟩

set_option maxHeartbeats 400000 in
theorem ahead_any (A A' : Option Addr) (c c' : Nat) (xs ys : List Int) (w : World) (B : Nat) (hB : B ≤ w.heap.size) (h : RdI w B A c xs) (h' : RdI w B A' c' ys) :
    Calls Try.prog 84 #[.slice A xs.length c, .slice A' ys.length c'] w fun e w' => e = .returned (.bool (aheadB xs ys)) ∧ Below w.heap.size w w' := by
  have h1 := h.len
  have h2 := h.max
  have h3 := h'.len
  have h4 := h'.max
  by_cases hl : xs.length = ys.length
  · have ht : ((xs.length : Int) != (ys.length : Int)) = false := by simp [hl]
    have HE : Hid (aheadB xs ys = decide (cmpL xs ys < 0)) := by show aheadB xs ys = _; rw [aheadB, if_pos hl]
    clear hl
    go_enter Try.func84, Try.ntmps84
    go_wp2_with (go_at_call 85; refine (l3List_any _ _ _ _ _ _ _ _ hB h h').mono ?_; rintro e w1 ⟨rfl, hb1⟩)
    go_ret
    exact ⟨ret_bool HE.out.symm, hb1⟩
  · have ht : ((xs.length : Int) != (ys.length : Int)) = true := by simp; omega
    have HE : Hid (aheadB xs ys = decide (xs.length < ys.length)) := by show aheadB xs ys = _; rw [aheadB, if_neg hl]
    clear hl
    go_enter Try.func84, Try.ntmps84
    go_wp2
    go_ret
    exact ⟨ret_bool (by rw [HE.out]), Below.refl _ _⟩

end Go.Proofs.Ytbledcogbkeneaa
