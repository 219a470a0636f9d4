/- The laws' own helpers on slices of integers and on periods, by contracts. Conditions: none. -/
import Derived.Test.YtdjchjmmpjofcaaDoorMem
import Derived.Deep.LoopGhost
import Derived.Outline
namespace Go.Proofs.YtdjchjmmpjofcaaDoor
open Go.RowKit
set_option linter.unusedVariables false

theorem bel1 (w : World) (o : Obj) : Below w.heap.size w (w.alloc o) := (Below.refl _ _).alloc (Nat.le_refl _) _
theorem bel2 (w : World) (o o' : Obj) : Below w.heap.size w ((w.alloc o).alloc o') := (bel1 w o).alloc (by simp) _
theorem bel3 (w : World) (o o' o'' : Obj) : Below w.heap.size w (((w.alloc o).alloc o').alloc o'') := (bel2 w o o').alloc (by simp; omega) _
theorem set_step (xs : List Value) (z u : Value) (n k : Nat) (hk : k < n) (hx : xs[k]? = some u) :
    (xs.take k ++ List.replicate (n - k) z).set k u = xs.take (k + 1) ++ List.replicate (n - (k + 1)) z := by
  have hl : k < xs.length := by
    rcases Nat.lt_or_ge k xs.length with h' | h'
    · exact h'
    · rw [List.getElem?_eq_none h'] at hx; cases hx
  have ht : (xs.take k).length = k := by rw [List.length_take]; omega
  rw [List.set_append_right _ _ (by omega), ht, Nat.sub_self, show n - k = (n - (k + 1)) + 1 by omega, List.replicate_succ, List.set_cons_zero]
  rw [List.take_add_one, hx]
  simp

set_option maxHeartbeats 400000 in
theorem eqIntS_any (A A' : Option Addr) (c c' : Nat) (xs ys : List Int) (w : World) (B : Nat) (hB : B ≤ w.heap.size) (h : RdI w B A c xs) (h' : RdI w B A' c' ys) :
    Calls Tryd.prog 34 #[.slice A xs.length c, .slice A' ys.length c'] w fun e w' => e = .returned (.bool (decide (xs = ys))) ∧ Below w.heap.size w w' := by
  have h1 := h.len
  have h2 := h.max
  have h3 := h'.len
  have h4 := h'.max
  by_cases hl : xs.length = ys.length
  · have hne : ((xs.length : Int) != (ys.length : Int)) = false := by simp [hl]
    have HL := Lib.hid hl; clear hl
    go_enter Tryd.func34, Tryd.ntmps34
    go_wp2
    go_loopw [5] (fun i wr => ∃ k : Nat, i = .int .i64 k ∧ k ≤ xs.length ∧ (∀ j, j < k → gi xs j = gi ys j) ∧ Below w.heap.size w wr)
      (fun i _ => xs.length - (intOf i).toNat)
    case atStart => exact ⟨0, rfl, by omega, fun j hj => absurd hj (by omega), Below.refl _ _⟩
    case round =>
      obtain ⟨k, rfl, hk, hs, hb⟩ := hrel
      have HS := Lib.hid hs; clear hs
      by_cases hlt : k < xs.length
      · have hlt' : k < ys.length := by rw [← HL.out]; exact hlt
        obtain ⟨b, o, rfl, hbB, hc⟩ := (h.below hb hB).at (j := k) hlt
        obtain ⟨b', o', rfl, hbB', hc'⟩ := (h'.below hb hB).at (j := k) hlt'
        have hc1 := hc k hlt
        have hc2 := hc' k hlt'
        clear hc hc'
        by_cases he : gi xs k = gi ys k
        · have ht : (gi xs k != gi ys k) = false := by simp [he]
          have HE := Lib.hid he; clear he
          go_wp2
          go_quiet (fail)
          go_wp2
          go_roundw
          case rel => exact ⟨k + 1, by go_num, by omega, fun j hj => if hjk : j = k then by subst hjk; exact HE.out else HS.out j (by omega), bdrew hb _⟩
          case measure => simp [intOf]; omega
        · have ht : (gi xs k != gi ys k) = true := by simp [he]
          have HE := Lib.hid he; clear he
          go_wp2
          go_quiet (fail)
          go_wp2
          go_ret
          refine ⟨ret_bool ?_, bdrew hb _⟩
          rw [Bool.false_eq, decide_eq_false_iff_not]
          intro hxy
          exact HE.out (by rw [hxy])
      · go_wp2
        go_ret
        refine ⟨ret_bool ?_, hb⟩
        rw [Bool.true_eq, decide_eq_true_eq]
        refine List.ext_getElem HL.out fun j hj hj' => ?_
        have := HS.out j (by omega)
        simpa [gi, hj, hj'] using this
  · have hne : ((xs.length : Int) != (ys.length : Int)) = true := by simp; omega
    have hxy : ¬ xs = ys := fun h => hl (by rw [h])
    go_enter Tryd.func34, Tryd.ntmps34
    go_wp2
    go_ret
    exact ⟨by simp [hxy], Below.refl _ _⟩

end Go.Proofs.YtdjchjmmpjofcaaDoor
