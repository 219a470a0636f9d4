/- Texts reversed and with marks exchanged: the program's and the reference's, by contracts. Conditions: none. -/
import Derived.Test.YtidfbbegjpfjpaaDoorStrip
import Derived.Test.YtidfbbegjpfjpaaDoorExch
import Derived.OwnWalk
namespace Go.Proofs.YtidfbbegjpfjpaaDoor
open Go.RowKit
set_option linter.unusedVariables false

theorem drop_rev (l : List UInt8) (j : Nat) (h : j < l.length) : (l.drop (j + 1)).reverse ++ [l[j]] = (l.drop j).reverse := by
  rw [List.drop_eq_getElem_cons h, List.reverse_cons]

set_option maxHeartbeats 400000 in
theorem reversed_any (s : ByteArray) (w : World) (hs : s.size ≤ 1000000) :
    Calls Tryd.prog 89 #[.string s] w fun e w' => e = .returned (.string (str s.data.toList.reverse)) ∧ Below w.heap.size w w' := by
  go_enter Tryd.func89, Tryd.ntmps89
  go_wp2
  go_loopw [3, 4] (fun v i wr => ∃ (m : Int) (k : Nat) (A : Option Addr) (c : Nat), i = .int .i64 m ∧ m + 1 = k ∧ k ≤ s.size ∧ v = .slice A (s.size - k) c ∧ Own wr w.heap.size 5 (.slice A (s.size - k) c) (bcells (s.data.toList.drop k).reverse) ∧ Below w.heap.size w wr) (fun _ i _ => ((match i with | .int _ m => m | _ => 0) + 1).toNat)
  case atStart =>
    refine ⟨(s.size : Int) - 1, s.size, _, _, rfl, by omega, by omega, by rw [Nat.sub_self], ?_, (Below.refl _ _).alloc (Nat.le_refl _) _⟩
    rw [List.drop_of_length_le (by rw [data_len]; omega), Nat.sub_self]
    exact Own.empty _ 5 _ _ (Nat.le_refl _)
  case round =>
    obtain ⟨m, k, A, c, rfl, hmk, hk, rfl, ho, hb⟩ := hrel
    have hzr := hb.size
    cases k with
    | zero =>
      obtain rfl : m = -1 := by omega
      have hback := own_back ho
      rw [Nat.sub_zero, List.drop_zero] at hback
      have HO := Lib.hid ho; clear ho
      rw [Nat.sub_zero]
      obtain ⟨l, hl⟩ : ∃ l, l = s.data.toList.reverse := ⟨_, rfl⟩
      rw [← hl] at hback
      have HL := Lib.hid hl; clear hl
      go_wp2
      go_ret
      exact ⟨ret_strl HL.out, hb⟩
    | succ j =>
      obtain rfl : m = (j : Int) := by omega
      have hlt : j < s.size := by omega
      have hlen : Hid ((s.data.toList.drop (j + 1)).reverse.length + 1 = s.size - j) := by show _ = _; rw [List.length_reverse, List.length_drop, data_len]; omega
      go_wp2_with (at_builtin; refine append_byte rfl _ _ rfl w.heap.size _ (s.data.toList.drop (j + 1)).reverse rfl (ho.below ((Below.refl _ _).alloc (Nat.le_refl _) _)) _ s[j] rfl ((Blk.new _ _ _).cell 0) (by have := hlen.out; omega) (by simp; omega) ?_; intro A2 c2 w2 ho2 hb2 hg2; rw [hlen.out] at ho2 ⊢)
      have HO : Hid (Own w2 w.heap.size 5 (.slice A2 (s.size - j) c2) (bcells (s.data.toList.drop j).reverse)) := by
        have e := drop_rev s.data.toList j (by rw [data_len]; exact hlt)
        rw [getElem_data s j hlt] at e
        rw [← e]; exact ho2
      clear ho2
      go_wp2
      go_roundw
      case rel => exact ⟨(j : Int) - 1, j, _, _, rfl, by omega, by omega, rfl, HO.out, hb.trans (((Below.refl _ _).alloc hzr _).trans hb2)⟩
      case measure => simp
/-- The mark that the other player has, as the reference has it. -/
def oth (b : UInt8) : UInt8 := if b = 84 then 70 else if b = 70 then 84 else if b = 76 then 82 else if b = 82 then 76 else 46
end Go.Proofs.YtidfbbegjpfjpaaDoor
