/- Texts with marks exchanged: the program's function, by contract. Conditions: none. -/
import Derived.Test.YtpepkpikeggceaaDoorBytes
import Derived.ProofKit
import Derived.WalkLawsBesides
import Derived.WalkSpells
import Derived.Outline
import Derived.OwnWalk
namespace Go.Proofs.YtpepkpikeggceaaDoor
open Go.RowKit
set_option linter.unusedVariables false

theorem ret_strl {l m : List UInt8} (h : l = m) : Ending.returned (.string (str l)) = .returned (.string (str m)) := by rw [h]
theorem getElem_data (s : ByteArray) (j : Nat) (h : j < s.size) : s.data.toList[j]'(by rw [data_len]; exact h) = s[j] := rfl
/-- The mark that stands for a mark when two are exchanged. -/
def swp (x y b : UInt8) : UInt8 := if b = x then y else if b = y then x else b
/-- The first k bytes turned. -/
def mix (f : UInt8 → UInt8) (l : List UInt8) (k : Nat) : List UInt8 := (l.take k).map f ++ l.drop k
theorem mix_len (f : UInt8 → UInt8) (l : List UInt8) (k : Nat) : (mix f l k).length = l.length := by simp [mix]; omega
theorem mix_at (f : UInt8 → UInt8) (l : List UInt8) (k : Nat) (h : k < l.length) : (mix f l k)[k]? = some l[k] := by
  have hl : ((l.take k).map f).length = k := by rw [List.length_map, List.length_take]; omega
  rw [mix, List.getElem?_append_right (by omega), hl, Nat.sub_self, List.getElem?_drop, Nat.add_zero, List.getElem?_eq_getElem h]
theorem mix_set (f : UInt8 → UInt8) (l : List UInt8) (k : Nat) (h : k < l.length) : (mix f l k).set k (f l[k]) = mix f l (k + 1) := by
  have hl : ((l.take k).map f).length = k := by rw [List.length_map, List.length_take]; omega
  have ht : l.take (k + 1) = l.take k ++ [l[k]] := List.take_succ_eq_append_getElem h
  rw [mix, List.set_append_right _ _ (by omega), hl, Nat.sub_self, List.drop_eq_getElem_cons h, List.set_cons_zero, mix, ht, List.map_append]
  simp
theorem mix_same (f : UInt8 → UInt8) (l : List UInt8) (k : Nat) (h : k < l.length) (hf : f l[k] = l[k]) : mix f l k = mix f l (k + 1) := by
  have ht : l.take (k + 1) = l.take k ++ [l[k]] := List.take_succ_eq_append_getElem h
  rw [mix, mix, ht, List.map_append, List.drop_eq_getElem_cons h]
  simp [hf]
theorem mix_all (f : UInt8 → UInt8) (l : List UInt8) : mix f l l.length = l.map f := by simp [mix]
theorem mix_zero (f : UInt8 → UInt8) (l : List UInt8) : mix f l 0 = l := by simp [mix]
theorem BRow.setn {w : World} {g : Nat} {bs : List UInt8} (h : BRow w g bs) (i : Nat) (b : UInt8) (n : Int) (hn : (b.toNat : Int) = n) : BRow (w.setCell ⟨g, i, none⟩ (.int .u8 n)) g (bs.set i b) := hn ▸ h.set i b

set_option maxHeartbeats 400000 in
theorem exchanged_any (s : ByteArray) (w : World) (hs : s.size ≤ 1000000) :
    Calls Tryd.prog 28 #[.string s] w fun e w' => e = .returned (.string (str (s.data.toList.map (swp 76 82)))) ∧ Below w.heap.size w w' := by
  go_enter Tryd.func28, Tryd.ntmps28
  go_wp2_with (refine wpList_bytes rfl (.tmp 6) s rfl rfl ?_; intro c w1 hr1 hb1 hz1 hc1)
  go_loopw [4, 5, 10] (fun x y i wr => ∃ k : Nat, i = .int .i64 k ∧ k ≤ s.size ∧ BRow wr w.heap.size (mix (swp 76 82) s.data.toList k) ∧ Below w.heap.size w wr) (fun _ _ i _ => s.size - (intOf i).toNat)
  case atStart => exact ⟨0, rfl, by omega, by rw [mix_zero]; exact hr1, hb1⟩
  case round =>
    clear hr1 hb1 hz1
    obtain ⟨k, rfl, hk, hr, hb⟩ := hrel
    by_cases hlt : k < s.size
    · have hll : k < s.data.toList.length := by rw [data_len]; exact hlt
      have hck := hr.cell k _ (mix_at _ _ _ hll)
      have hfk := hr.frozen k (by rw [mix_len]; exact hll)
      have hse := mix_set (swp 76 82) _ _ hll
      have hsa := mix_same (swp 76 82) _ _ hll
      rw [getElem_data s k hlt] at hck hse hsa
      have HR := Lib.hid hr; have HSE := Lib.hid hse; have HSA := Lib.hid hsa; clear hr hse hsa hll
      by_cases c1 : s[k] = 76
      · have t1 := beq_t 76 rfl c1
        have t2 : ((s[k].toNat : Int) == 82) = false := beq_f (c := 82) 82 rfl (by rw [c1]; decide)
        have HC := Lib.hid c1; clear c1
        go_wp2
        go_roundw
        case rel => exact ⟨k + 1, by go_num, by omega, by have := HR.out.setn k (swp 76 82 s[k]) 82 (by rw [HC.out]; rfl); rwa [HSE.out] at this, hb.setCell (Nat.le_refl _) _⟩
        case measure => simp [intOf]; omega
      · have t1 := beq_f 76 rfl c1
        by_cases c2 : s[k] = 82
        · have t2 := beq_t 82 rfl c2
          have HC := Lib.hid c2; clear c1 c2
          go_wp2
          go_roundw
          case rel => exact ⟨k + 1, by go_num, by omega, by have := HR.out.setn k (swp 76 82 s[k]) 76 (by rw [HC.out]; rfl); rwa [HSE.out] at this, hb.setCell (Nat.le_refl _) _⟩
          case measure => simp [intOf]; omega
        · have t2 := beq_f 82 rfl c2
          have HC : Hid (swp 76 82 s[k] = s[k]) := by show _ = _; rw [swp, if_neg c1, if_neg c2]
          clear c1 c2
          go_wp2
          go_roundw
          case rel => exact ⟨k + 1, by go_num, by omega, by rw [← HSA.out HC.out]; exact HR.out, hb⟩
          case measure => simp [intOf]; omega
    · obtain rfl : k = s.size := by omega
      have hback := hr.back (c := c) (n := s.size) (by rw [mix_len, data_len])
      have HM : Hid (mix (swp 76 82) s.data.toList s.size = s.data.toList.map (swp 76 82)) := by have := mix_all (swp 76 82) s.data.toList; rw [data_len] at this; exact this
      rw [HM.out] at hback
      obtain ⟨l, hl⟩ : ∃ l, l = s.data.toList.map (swp 76 82) := ⟨_, rfl⟩
      rw [← hl] at hback
      have HL := Lib.hid hl; clear hl
      clear hr HM
      go_wp2
      go_ret
      exact ⟨ret_strl HL.out, hb⟩

end Go.Proofs.YtpepkpikeggceaaDoor
