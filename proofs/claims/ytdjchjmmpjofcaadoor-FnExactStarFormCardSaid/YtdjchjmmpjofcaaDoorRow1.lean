/- The laws' own helpers on rows of integers: markIntS, heldIntS, by contracts. Conditions: none. -/
import Derived.Test.YtdjchjmmpjofcaaDoorMem
import Derived.Deep.LoopGhost
import Derived.Maps.AppendAt
namespace Go.Proofs.YtdjchjmmpjofcaaDoor
open Go.RowKit
set_option linter.unusedVariables false

/-- n numbers from k on. -/
def numRow (k : Int) (n : Nat) : List Int := (List.range n).map fun (i : Nat) => k + i
theorem numRow_len (k : Int) (n : Nat) : (numRow k n).length = n := by simp [numRow]
theorem gi_numRow (k : Int) (n i : Nat) (h : i < n) : gi (numRow k n) i = k + i := by simp [gi, numRow, h]
theorem numRow_step (k : Int) (xs : List Int) (j : Nat) (h : j < xs.length) : (numRow k j ++ xs.drop j).set j (k + j) = numRow k (j + 1) ++ xs.drop (j + 1) := by
  rw [List.set_append_right _ _ (by rw [numRow_len]; exact Nat.le_refl _), numRow_len, Nat.sub_self, List.drop_eq_getElem_cons h, List.set_cons_zero]
  simp [numRow, List.range_succ]
theorem ints_set (xs : List Int) (j : Nat) (u : Int) : (ints xs).set j (.int .i64 u) = ints (xs.set j u) := by simp [ints, List.map_set]

set_option maxHeartbeats 400000 in
theorem markRow_any (A : Option Addr) (c : Nat) (xs : List Int) (k : Int) (w : World) (lo : Nat) (h : Own w lo 3 (.slice A xs.length c) (ints xs)) (hk : 0 ≤ k) (hb : k + xs.length ≤ 1000000000000000) :
    Calls Tryd.prog 22 #[.slice A xs.length c, .int .i64 k] w fun e w' =>
      e = .returned (.int .i64 (k + xs.length)) ∧ Own w' lo 3 (.slice A xs.length c) (ints (numRow k xs.length)) ∧ w.grownBy w' (Value.slice A xs.length c).ownBlock := by
  have h1 := (RdI.len (show RdI w _ A c xs from h.rd))
  have h2 := (RdI.max (show RdI w _ A c xs from h.rd))
  go_enter Tryd.func22, Tryd.ntmps22
  go_wp2
  go_loopw [1, 5] (fun k' i wr => ∃ j : Nat, i = .int .i64 j ∧ k' = .int .i64 (k + j) ∧ j ≤ xs.length ∧ Own wr lo 3 (.slice A xs.length c) (ints (numRow k j ++ xs.drop j)) ∧ w.grownBy wr (Value.slice A xs.length c).ownBlock)
    (fun _ i _ => xs.length - (intOf i).toNat)
  case atStart => exact ⟨0, rfl, by simp, by omega, by simpa [numRow] using h, ⟨rfl, rfl, rfl, Nat.le_refl _, fun _ _ _ => rfl⟩⟩
  case round =>
    clear h
    obtain ⟨j, rfl, rfl, hj, ho, hg⟩ := hrel
    have hlen : (numRow k j ++ xs.drop j).length = xs.length := by rw [List.length_append, numRow_len, List.length_drop]; omega
    by_cases hlt : j < xs.length
    · obtain ⟨g, rfl, -, hlo, hgl, hc, hf⟩ := ho.at (by rw [ints_len, hlen]; omega)
      have hcj := hc j _ (ints_at _ j (by rw [hlen]; exact hlt))
      have hfj := hf j
      clear hc hf
      have ho' : wr.ownsRow lo 3 1 (.slice (some ⟨g, 0, none⟩) xs.length c) xs.length (ints (numRow k j ++ xs.drop j)) := by
        have := ho
        unfold Own at this
        rw [ints_len, hlen] at this
        exact this
      have hs := ho'.stored j (.int .i64 (k + j))
      rw [ints_set, numRow_step k xs j hlt] at hs
      obtain ⟨hs1, hs2⟩ := hs
      have hs3 : Own (wr.setCell ⟨g, j, none⟩ (.int .i64 (k + j))) lo 3 (.slice (some ⟨g, 0, none⟩) xs.length c) (ints (numRow k (j + 1) ++ xs.drop (j + 1))) := by
        unfold Own
        rw [ints_len, List.length_append, numRow_len, List.length_drop, show j + 1 + (xs.length - (j + 1)) = xs.length by omega]
        exact hs1
      have HS := Lib.hid hs3; clear hs1 hs3
      have HG2 := Lib.hid hs2; clear hs2
      have HG := Lib.hid hg; clear hg
      have HO := Lib.hid ho; clear ho ho' hlen
      go_wp2
      go_roundw
      case rel => exact ⟨j + 1, by go_num, by go_num, by omega, HS.out, HG.out.trans HG2.out⟩
      case measure => simp [intOf]; omega
    · obtain rfl : j = xs.length := by omega
      rw [List.drop_length, List.append_nil] at ho
      have HO := Lib.hid ho; clear ho
      go_wp2
      go_ret
      exact ⟨rfl, HO.out, hg⟩

set_option maxHeartbeats 400000 in
theorem heldRow_any (A : Option Addr) (c : Nat) (n : Nat) (k : Int) (w : World) (B : Nat) (h : RdI w B A c (numRow k n)) (hk : 0 ≤ k) (hb : k + n ≤ 1000000000000000) :
    Calls Tryd.prog 23 #[.slice A n c, .int .i64 k] w fun e w' => e = .returned (.int .i64 (k + n)) ∧ w = w' := by
  have h1 := h.len
  have h2 := h.max
  rw [numRow_len] at h1
  go_enter Tryd.func23, Tryd.ntmps23
  go_wp2
  go_loop [1, 5] (fun k' i => ∃ j : Nat, i = .int .i64 j ∧ k' = .int .i64 (k + j) ∧ j ≤ n) (fun _ i => n - (intOf i).toNat)
  case atStart => exact ⟨0, rfl, by simp, by omega⟩
  case round =>
    obtain ⟨j, rfl, rfl, hj⟩ := hrel
    by_cases hlt : j < n
    · obtain ⟨b, o, rfl, hbB, hc⟩ := h.at (j := j) (by rw [numRow_len]; exact hlt)
      have hcj := hc j (by rw [numRow_len]; exact hlt)
      rw [gi_numRow k n j hlt] at hcj
      clear hc
      go_wp2
      go_round
      case rel => exact ⟨j + 1, by go_num, by go_num, by omega⟩
      case measure => simp [intOf]; omega
    · obtain rfl : j = n := by omega
      go_wp2
      go_ret
      exact ⟨rfl, rfl⟩

end Go.Proofs.YtdjchjmmpjofcaaDoor
