/- The laws' own helpers on slices of integers and on periods, by contracts. Conditions: none. -/
import Derived.Test.YtbledcogbkeneaaMem
import Derived.Deep.LoopGhost
import Derived.Outline
namespace Go.Proofs.Ytbledcogbkeneaa
open Go.RowKit
set_option linter.unusedVariables false

theorem bel1 (w : World) (o : Obj) : Below w.heap.size w (w.alloc o) := (Below.refl _ _).alloc (Nat.le_refl _) _
theorem bel2 (w : World) (o o' : Obj) : Below w.heap.size w ((w.alloc o).alloc o') := (bel1 w o).alloc (by simp) _
theorem bel3 (w : World) (o o' o'' : Obj) : Below w.heap.size w (((w.alloc o).alloc o').alloc o'') := (bel2 w o o').alloc (by simp; omega) _
theorem set_step (xs : List Value) (z u : Value) (n k : Nat) (hk : k < n) (hx : xs[k]? = some u) :
    (xs.take k ++ List.replicate (n - k) z).set k u = xs.take (k + 1) ++ List.replicate (n - (k + 1)) z := by
  have hl : k < xs.length := by
    rcases Nat.lt_or_ge k xs.length with h' | h'
    · exact h'
    · rw [List.getElem?_eq_none h'] at hx; cases hx
  have ht : (xs.take k).length = k := by rw [List.length_take]; omega
  rw [List.set_append_right _ _ (by omega), ht, Nat.sub_self, show n - k = (n - (k + 1)) + 1 by omega, List.replicate_succ, List.set_cons_zero]
  rw [List.take_add_one, hx]
  simp

set_option maxHeartbeats 400000 in
theorem toIntS_any (A : Option Addr) (c : Nat) (xs : List Int) (w : World) (B : Nat) (hB : B ≤ w.heap.size) (h : RdI w B A c xs) (hn : xs.length ≤ 1048576) :
    Calls Try.prog 9 #[.slice A xs.length c] w (RetI w xs) := by
  have h1 := h.len
  have h2 := h.max
  go_enter Try.func9, Try.ntmps9
  go_wp2_with (at_make; refine make_ints rfl _ _ rfl xs.length rfl rfl (by omega) ?_; intro w1 ho1 hb1 hz1)
  go_loopw [4] (fun i wr => ∃ k : Nat, i = .int .i64 k ∧ k ≤ xs.length ∧ wr.ownsRow w.heap.size 3 1 (.slice (some ⟨w.heap.size, 0, none⟩) xs.length xs.length) xs.length ((ints xs).take k ++ List.replicate (xs.length - k) (.int .i64 0)) ∧ Below w.heap.size w wr ∧ w.heap.size < wr.heap.size)
    (fun i _ => xs.length - (intOf i).toNat)
  case atStart =>
    refine ⟨0, rfl, by omega, ?_, hb1, hz1⟩
    have := ho1
    unfold OwnI at this
    rw [List.length_replicate] at this
    simpa [ints] using this
  case round =>
    clear ho1 hb1 hz1
    obtain ⟨k, rfl, hk, ho, hb, hz⟩ := hrel
    by_cases hlt : k < xs.length
    · obtain ⟨b, o, rfl, hbB, hc⟩ := (h.below hb hB).at (j := k) hlt
      have hc1 := hc k hlt
      clear hc
      have hs := ho.stored k (.int .i64 (gi xs k))
      have hcell : wr.cell? ⟨w.heap.size, k, none⟩ = some (((ints xs).take k ++ List.replicate (xs.length - k) (Value.int .i64 0)).getD k (.int .i64 0)) := by
        rw [ho.cellAt k (by omega)]
        have hl : k < ((ints xs).take k ++ List.replicate (xs.length - k) (Value.int .i64 0)).length := by
          simp [ints]; omega
        rw [List.getD_eq_getElem?_getD, List.getElem?_eq_getElem hl]; rfl
      have hfr := ho.frozenAt k
      rw [set_step (ints xs) _ _ _ k hlt (ints_at xs k hlt)] at hs
      have HS := Lib.hid hs; clear hs
      go_wp2
      go_roundw
      case rel => exact ⟨k + 1, by go_num, by omega, HS.out.1, hb.setCell (Nat.le_refl _) _, by simpa using hz⟩
      case measure => simp [intOf]; omega
    · obtain rfl : k = xs.length := by omega
      go_wp2
      go_ret
      refine ⟨_, _, rfl, ?_, hb⟩
      unfold OwnI
      have e : (ints xs).take xs.length ++ List.replicate (xs.length - xs.length) (Value.int .i64 0) = ints xs := by
        rw [List.take_of_length_le (by rw [ints_len]; omega)]; simp
      rw [e] at ho
      exact ho

set_option maxHeartbeats 400000 in
theorem eqIntS_any (A A' : Option Addr) (c c' : Nat) (xs ys : List Int) (w : World) (B : Nat) (hB : B ≤ w.heap.size) (h : RdI w B A c xs) (h' : RdI w B A' c' ys) :
    Calls Try.prog 12 #[.slice A xs.length c, .slice A' ys.length c'] w fun e w' => e = .returned (.bool (decide (xs = ys))) ∧ Below w.heap.size w w' := by
  have h1 := h.len
  have h2 := h.max
  have h3 := h'.len
  have h4 := h'.max
  by_cases hl : xs.length = ys.length
  · have hne : ((xs.length : Int) != (ys.length : Int)) = false := by simp [hl]
    have HL := Lib.hid hl; clear hl
    go_enter Try.func12, Try.ntmps12
    go_wp2
    go_loopw [5] (fun i wr => ∃ k : Nat, i = .int .i64 k ∧ k ≤ xs.length ∧ (∀ j, j < k → gi xs j = gi ys j) ∧ Below w.heap.size w wr)
      (fun i _ => xs.length - (intOf i).toNat)
    case atStart => exact ⟨0, rfl, by omega, fun j hj => absurd hj (by omega), Below.refl _ _⟩
    case round =>
      obtain ⟨k, rfl, hk, hs, hb⟩ := hrel
      have HS := Lib.hid hs; clear hs
      by_cases hlt : k < xs.length
      · have hlt' : k < ys.length := by rw [← HL.out]; exact hlt
        obtain ⟨b, o, rfl, hbB, hc⟩ := (h.below hb hB).at (j := k) hlt
        obtain ⟨b', o', rfl, hbB', hc'⟩ := (h'.below hb hB).at (j := k) hlt'
        have hc1 := hc k hlt
        have hc2 := hc' k hlt'
        clear hc hc'
        by_cases he : gi xs k = gi ys k
        · have ht : (gi xs k != gi ys k) = false := by simp [he]
          have HE := Lib.hid he; clear he
          go_wp2
          go_quiet (fail)
          go_wp2
          go_roundw
          case rel => exact ⟨k + 1, by go_num, by omega, fun j hj => if hjk : j = k then by subst hjk; exact HE.out else HS.out j (by omega), bdrew hb _⟩
          case measure => simp [intOf]; omega
        · have ht : (gi xs k != gi ys k) = true := by simp [he]
          have HE := Lib.hid he; clear he
          go_wp2
          go_quiet (fail)
          go_wp2
          go_ret
          refine ⟨ret_bool ?_, bdrew hb _⟩
          rw [Bool.false_eq, decide_eq_false_iff_not]
          intro hxy
          exact HE.out (by rw [hxy])
      · go_wp2
        go_ret
        refine ⟨ret_bool ?_, hb⟩
        rw [Bool.true_eq, decide_eq_true_eq]
        refine List.ext_getElem HL.out fun j hj hj' => ?_
        have := HS.out j (by omega)
        simpa [gi, hj, hj'] using this
  · have hne : ((xs.length : Int) != (ys.length : Int)) = true := by simp; omega
    have hxy : ¬ xs = ys := fun h => hl (by rw [h])
    go_enter Try.func12, Try.ntmps12
    go_wp2
    go_ret
    exact ⟨by simp [hxy], Below.refl _ _⟩

end Go.Proofs.Ytbledcogbkeneaa
