/- Texts reversed and with marks exchanged: the program's and the reference's, by contracts. Conditions: none. -/
import Derived.Test.YtpepkpikeggceaaDoorStrip
import Derived.Test.YtpepkpikeggceaaDoorExch
import Derived.OwnWalk
namespace Go.Proofs.YtpepkpikeggceaaDoor
open Go.RowKit
set_option linter.unusedVariables false

theorem drop_rev (l : List UInt8) (j : Nat) (h : j < l.length) : (l.drop (j + 1)).reverse ++ [l[j]] = (l.drop j).reverse := by
  rw [List.drop_eq_getElem_cons h, List.reverse_cons]

set_option maxHeartbeats 400000 in
theorem reversed_any (s : ByteArray) (w : World) (hs : s.size ≤ 1000000) :
    Calls Tryd.prog 52 #[.string s] w fun e w' => e = .returned (.string (str s.data.toList.reverse)) ∧ Below w.heap.size w w' := by
  go_enter Tryd.func52, Tryd.ntmps52
  go_wp2
  go_loopw [3, 4] (fun v i wr => ∃ (m : Int) (k : Nat) (A : Option Addr) (c : Nat), i = .int .i64 m ∧ m + 1 = k ∧ k ≤ s.size ∧ v = .slice A (s.size - k) c ∧ Own wr w.heap.size 5 (.slice A (s.size - k) c) (bcells (s.data.toList.drop k).reverse) ∧ Below w.heap.size w wr) (fun _ i _ => ((match i with | .int _ m => m | _ => 0) + 1).toNat)
  case atStart =>
    refine ⟨(s.size : Int) - 1, s.size, _, _, rfl, by omega, by omega, by rw [Nat.sub_self], ?_, (Below.refl _ _).alloc (Nat.le_refl _) _⟩
    rw [List.drop_of_length_le (by rw [data_len]; omega), Nat.sub_self]
    exact Own.empty _ 5 _ _ (Nat.le_refl _)
  case round =>
    obtain ⟨m, k, A, c, rfl, hmk, hk, rfl, ho, hb⟩ := hrel
    have hzr := hb.size
    cases k with
    | zero =>
      obtain rfl : m = -1 := by omega
      have hback := own_back ho
      rw [Nat.sub_zero, List.drop_zero] at hback
      have HO := Lib.hid ho; clear ho
      rw [Nat.sub_zero]
      obtain ⟨l, hl⟩ : ∃ l, l = s.data.toList.reverse := ⟨_, rfl⟩
      rw [← hl] at hback
      have HL := Lib.hid hl; clear hl
      go_wp2
      go_ret
      exact ⟨ret_strl HL.out, hb⟩
    | succ j =>
      obtain rfl : m = (j : Int) := by omega
      have hlt : j < s.size := by omega
      have hlen : Hid ((s.data.toList.drop (j + 1)).reverse.length + 1 = s.size - j) := by show _ = _; rw [List.length_reverse, List.length_drop, data_len]; omega
      go_wp2_with (at_builtin; refine append_byte rfl _ _ rfl w.heap.size _ (s.data.toList.drop (j + 1)).reverse rfl (ho.below ((Below.refl _ _).alloc (Nat.le_refl _) _)) _ s[j] rfl ((Blk.new _ _ _).cell 0) (by have := hlen.out; omega) (by simp; omega) ?_; intro A2 c2 w2 ho2 hb2 hg2; rw [hlen.out] at ho2 ⊢)
      have HO : Hid (Own w2 w.heap.size 5 (.slice A2 (s.size - j) c2) (bcells (s.data.toList.drop j).reverse)) := by
        have e := drop_rev s.data.toList j (by rw [data_len]; exact hlt)
        rw [getElem_data s j hlt] at e
        rw [← e]; exact ho2
      clear ho2
      go_wp2
      go_roundw
      case rel => exact ⟨(j : Int) - 1, j, _, _, rfl, by omega, by omega, rfl, HO.out, hb.trans (((Below.refl _ _).alloc hzr _).trans hb2)⟩
      case measure => simp
/-- The mark that the other player has, as the reference has it. -/
def oth (b : UInt8) : UInt8 := if b = 84 then 70 else if b = 70 then 84 else if b = 76 then 82 else if b = 82 then 76 else 46
set_option maxHeartbeats 400000 in
theorem other_any (b : UInt8) (w : World) :
    Calls Tryd.prog 45 #[.int .u8 (b.toNat : Int)] w fun e w' => e = .returned (.string (str [oth b])) ∧ w = w' := by
  by_cases c1 : b = 84
  · have t1 := beq_t 84 rfl c1
    have HC : Hid (oth b = 70) := by show _ = _; rw [c1]; rfl
    clear c1
    go_enter Tryd.func45, Tryd.ntmps45
    go_wp2
    go_ret
    exact ⟨by rw [HC.out]; rfl, rfl⟩
  · have t1 := beq_f 84 rfl c1
    by_cases c2 : b = 70
    · have t2 := beq_t 70 rfl c2
      have HC : Hid (oth b = 84) := by show _ = _; rw [c2]; rfl
      clear c1 c2
      go_enter Tryd.func45, Tryd.ntmps45
      go_wp2
      go_ret
      exact ⟨by rw [HC.out]; rfl, rfl⟩
    · have t2 := beq_f 70 rfl c2
      by_cases c3 : b = 76
      · have t3 := beq_t 76 rfl c3
        have HC : Hid (oth b = 82) := by show _ = _; rw [c3]; rfl
        clear c1 c2 c3
        go_enter Tryd.func45, Tryd.ntmps45
        go_wp2
        go_ret
        exact ⟨by rw [HC.out]; rfl, rfl⟩
      · have t3 := beq_f 76 rfl c3
        by_cases c4 : b = 82
        · have t4 := beq_t 82 rfl c4
          have HC : Hid (oth b = 76) := by show _ = _; rw [c4]; rfl
          clear c1 c2 c3 c4
          go_enter Tryd.func45, Tryd.ntmps45
          go_wp2
          go_ret
          exact ⟨by rw [HC.out]; rfl, rfl⟩
        · have t4 := beq_f 82 rfl c4
          have HC : Hid (oth b = 46) := by show _ = _; rw [oth, if_neg c1, if_neg c2, if_neg c3, if_neg c4]
          clear c1 c2 c3 c4
          go_enter Tryd.func45, Tryd.ntmps45
          go_wp2
          go_ret
          exact ⟨by rw [HC.out]; rfl, rfl⟩

set_option maxHeartbeats 400000 in
theorem round_any (s : ByteArray) (w : World) (hs : s.size ≤ 1000000) :
    Calls Tryd.prog 46 #[.string s] w fun e w' => e = .returned (.string (str s.data.toList.reverse)) ∧ w = w' := by
  go_enter Tryd.func46, Tryd.ntmps46
  go_wp2
  go_loop [3, 4] (fun v i => ∃ k : Nat, i = .int .i64 k ∧ k ≤ s.size ∧ v = .string (str (s.data.toList.take k).reverse)) (fun _ i => s.size - (intOf i).toNat)
  case atStart => exact ⟨0, rfl, by omega, rfl⟩
  case round =>
    obtain ⟨k, rfl, hk, rfl⟩ := hrel
    by_cases hlt : k < s.size
    · have hsz : (str (s.data.toList.take k).reverse).size = k := by rw [str_size, List.length_reverse, List.length_take, data_len]; omega
      have HS : Hid (s.extract k (k + 1) ++ str (s.data.toList.take k).reverse = str (s.data.toList.take (k + 1)).reverse) := by
        show _ = _
        refine str_of _ ?_
        have h' : k < s.data.toList.length := by rw [data_len]; exact hlt
        rw [data_append, data_one s k hlt, str_data, List.take_succ_eq_append_getElem h', List.reverse_append]
        rfl
      have hz2 : (s.extract k (k + 1)).size + (str (s.data.toList.take k).reverse).size ≤ 9223372036854775807 := by
        rw [hsz]
        have : (s.extract k (k + 1)).data.toList.length = 1 := by rw [data_one s k hlt]; rfl
        rw [data_len] at this
        omega
      have hadd := run_string_add_sum (P := Tryd.prog) w _ _ hz2
      rw [HS.out] at hadd
      clear hsz hz2
      go_wp2
      go_round
      case rel => exact ⟨k + 1, by go_num, by omega, rfl⟩
      case measure => simp [intOf]; omega
    · obtain rfl : k = s.size := by omega
      have HL : Hid (s.data.toList.take s.size = s.data.toList) := List.take_of_length_le (by rw [data_len]; omega)
      go_wp2
      go_ret
      exact ⟨ret_strl (by rw [HL.out]), rfl⟩
end Go.Proofs.YtpepkpikeggceaaDoor
