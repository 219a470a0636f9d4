/- The number of free cells of a board: the reference's, by contract. Conditions: none. -/
import Derived.Test.YtpepkpikeggceaaDoorCells2
import Derived.Test.YtpepkpikeggceaaDoorBoard1
namespace Go.Proofs.YtpepkpikeggceaaDoor
open Go.RowKit
set_option linter.unusedVariables false

/-- How many cells are free. -/
def fr : List (List Bool) → Nat
  | [] => 0
  | b :: bs => b.count true + fr bs
theorem fr_append (xs ys : List (List Bool)) : fr (xs ++ ys) = fr xs + fr ys := by
  induction xs with
  | nil => simp [fr]
  | cons x xs ih => simp only [List.cons_append, fr, ih]; omega
theorem fr_take (M : List (List Bool)) (j : Nat) (h : j < M.length) : fr (M.take (j + 1)) = fr (M.take j) + (gb M j).count true := by
  rw [List.take_succ_eq_append_getElem h, fr_append]
  have : gb M j = M[j] := by simp [gb, h]
  rw [this]
  simp [fr]
theorem ct_take (b : List Bool) (i : Nat) (h : i < b.length) : (b.take (i + 1)).count true = (b.take i).count true + (if b[i] = true then 1 else 0) := by
  rw [List.take_succ_eq_append_getElem h, List.count_append]
  congr 1
  cases b[i] <;> rfl
theorem fr_le (M : List (List Bool)) (h : ∀ j, j < M.length → (gb M j).length ≤ 8) (j : Nat) (hj : j ≤ M.length) : fr (M.take j) ≤ 8 * j := by
  induction j with
  | zero => simp [fr]
  | succ j ih =>
    rw [fr_take M j (by omega)]
    have h1 := ih (by omega)
    have h2 := h j (by omega)
    have h3 : (gb M j).count true ≤ (gb M j).length := List.count_le_length
    omega

set_option maxHeartbeats 1600000 in
theorem free_any (A : Option Addr) (c : Nat) (ss : List ByteArray) (w : World) (B : Nat) (hB : B ≤ w.heap.size) (h : Rd w B A c (scells ss)) (hb : boardP ss) :
    Calls Tryd.prog 34 #[.agg #[.slice A ss.length c]] w fun e w' => e = .returned (.int .i64 (fr (brows ss))) ∧ Below w.heap.size w w' := by
  have hlen : ss.length ≤ 8 := hb.1.2
  have hrow : ∀ j, j < (brows ss).length → (gb (brows ss) j).length ≤ 8 := fun j hj => by
    have hj' : j < ss.length := by simpa [brows] using hj
    have e : gb (brows ss) j = brow (gs ss j) := by simp [gb, brows, hj', gs]
    rw [e, brow_len, (hb.2.2 j hj').1]
    exact hb.2.1.2
  have hsh : Hid (Short ss) := Lib.hid fun j hj => by rw [(hb.2.2 j hj).1]; have := hb.2.1.2; omega
  have HFL := Lib.hid (fr_le (brows ss) hrow)
  have HROW := Lib.hid hrow
  have HC := Lib.hid fun W (hW : Below w.heap.size w W) => cells_any A c ss W B (Nat.le_trans hB hW.size) (h.below hW hB) hsh (by omega)
  have hml : (brows ss).length = ss.length := by simp [brows]
  obtain ⟨M, hM⟩ : ∃ M, M = brows ss := ⟨_, rfl⟩
  rw [← hM] at HFL HROW hml HC ⊢
  have HML := Lib.hid hml
  clear hb hrow hM hml
  go_enter Tryd.func34, Tryd.ntmps34
  go_wp2_with fail
  ((with_reducible refine (HC.out _ (bel1 _ _)).mono ?_); rintro e w1 ⟨A1, c1, rfl, hr, hb1⟩)
  have hbb := gtr (bel1 w (.cells #[.slice A ss.length c] 45)) hb1
  obtain ⟨-, hln2, hln3⟩ := hr.len
  have HR := Lib.hid hr
  clear hr hb1 HC h
  go_wp2
  go_loop [3, 5] (fun v3 v5 => ∃ (j n : Nat), v5 = .int .i64 j ∧ j ≤ ss.length ∧ v3 = .int .i64 n ∧ n = fr (M.take j)) (fun _ v5 => ss.length - (intOf v5).toNat)
  case atStart => exact ⟨0, 0, rfl, by omega, rfl, rfl⟩
  case round =>
    obtain ⟨j, n, rfl, hj, rfl, hn⟩ := hrel
    have HN := Lib.hid hn
    have hn64 : n ≤ 64 := by have := HFL.out j (by have := HML.out; omega); omega
    clear hn
    by_cases hlt : j < ss.length
    · obtain ⟨g, rfl, -, -, -, -, -, hcc⟩ := HR.out.at (j := j) (by have := HML.out; omega)
      obtain ⟨Aj, cj, hk1, hk2⟩ := hcc j (by have := HML.out; omega)
      have hr8 := HROW.out j (by have := HML.out; omega)
      have hrl := hk2.1
      have hrm := hk2.max
      have HFT := Lib.hid (fr_take M j (by have := HML.out; omega))
      obtain ⟨row, hrow⟩ : ∃ row, row = gb M j := ⟨_, rfl⟩
      rw [← hrow] at hk1 hk2 hr8 hrl HFT
      have HK2 := Lib.hid hk2
      have hbl : (bools row).length = row.length := by simp [bools]
      rw [hbl] at hrl
      clear hcc hk2 hrow hbl
      go_wp2
      go_loop [3, 6] (fun v3 v6 => ∃ (i m : Nat), v6 = .int .i64 i ∧ i ≤ row.length ∧ v3 = .int .i64 m ∧ m = n + (row.take i).count true) (fun _ v6 => row.length - (intOf v6).toNat)
      case atStart => exact ⟨0, n, rfl, by omega, rfl, by simp⟩
      case round =>
        obtain ⟨i, m, rfl, hi, rfl, hm⟩ := hrel
        have hm72 : m ≤ 72 := by have : (row.take i).count true ≤ (row.take i).length := List.count_le_length; rw [List.length_take] at this; omega
        by_cases hlt2 : i < row.length
        · obtain ⟨b2, o2, hA2, hb2, hc2⟩ := HK2.out.at (j := i) (by simp [bools]; exact hlt2)
          have hci := hc2 i (.bool row[i]) (by simp [bools, hlt2])
          have hct := ct_take row i hlt2
          rw [hA2] at hk1
          obtain ⟨bv, hbv⟩ : ∃ bv, bv = row[i] := ⟨_, rfl⟩
          rw [← hbv] at hci hct
          have HM := Lib.hid hm; have HCT := Lib.hid hct; have HK1 := Lib.hid hk1
          clear hm hct hc2 hbv hA2
          cases bv with
          | true =>
            go_wp2
            go_round
            case rel => exact ⟨i + 1, m + 1, by go_num, by omega, by go_num, by rw [HCT.out, HM.out]; simp; omega⟩
            case measure => simp [intOf]; omega
          | false =>
            go_wp2
            go_round
            case rel => exact ⟨i + 1, m, by go_num, by omega, rfl, by rw [HCT.out, HM.out]; simp⟩
            case measure => simp [intOf]; omega
        · obtain rfl : i = row.length := by omega
          rw [List.take_length] at hm
          have HM := Lib.hid hm
          clear hm
          go_wp2
          go_round
          case rel => exact ⟨j + 1, m, by go_num, by omega, rfl, by rw [HFT.out, HM.out, HN.out]⟩
          case measure => simp [intOf]; omega
    · obtain rfl : j = ss.length := by omega
      have hfin : n = fr M := by rw [HN.out, ← HML.out, List.take_length]
      have HFIN := Lib.hid hfin
      clear hfin
      go_wp2
      go_ret
      exact ⟨by rw [HFIN.out]; rfl, hbb⟩
end Go.Proofs.YtpepkpikeggceaaDoor
