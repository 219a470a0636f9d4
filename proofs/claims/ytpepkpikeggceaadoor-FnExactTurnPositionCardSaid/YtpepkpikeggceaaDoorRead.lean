/- ReadBoard of the program and of the reference, by contracts; the law. Conditions: none. -/
import Derived.Test.YtpepkpikeggceaaDoorSplit
import Derived.Test.YtpepkpikeggceaaDoorMarkB
import Derived.Test.YtpepkpikeggceaaDoorMirrorB
namespace Go.Proofs.YtpepkpikeggceaaDoor
open Go.RowKit
set_option linter.unusedVariables false

theorem map_str_data (os : List ByteArray) : (os.map (·.data.toList)).map str = os := by
  rw [List.map_map]
  conv => rhs; rw [← List.map_id os]
  exact List.map_congr_left fun x _ => (str_of x rfl).symm
theorem pieces_of {c : UInt8} {s : ByteArray} {os : List ByteArray} {q : List UInt8} (h : spl c s.data.toList = os.map (·.data.toList) ++ [q]) : pieces c s = os ++ [str q] := by
  rw [pieces, h, List.map_append, map_str_data]; rfl
theorem spl_total (c : UInt8) (l : List UInt8) : ((spl c l).map (·.length)).sum + (spl c l).length = l.length + 1 := by
  induction l with
  | nil => simp [spl]
  | cons b l ih =>
    simp only [spl]
    split
    · simp at ih ⊢; omega
    · split
      · rename_i e; rw [e] at ih; simp at ih
      · rename_i p ps e; rw [e] at ih; simp at ih ⊢; omega
theorem sum_le8 (ps : List ByteArray) (h : ∀ j, j < ps.length → (gs ps j).size ≤ 8) (k : Nat) (hk : k ≤ ps.length) : ((ps.take k).map (·.size)).sum ≤ 8 * k := by
  induction k with
  | zero => simp
  | succ k ih =>
    have h1 := ih (by omega)
    have h2 := h k hk
    rw [gs_lt hk] at h2
    rw [List.take_succ_eq_append_getElem hk, List.map_append, List.sum_append]
    simp only [List.map_cons, List.map_nil, List.sum_cons, List.sum_nil]
    omega
theorem pieces_size (c : UInt8) (s : ByteArray) : ((pieces c s).map (·.size)).sum + (pieces c s).length = s.size + 1 := by
  have h := spl_total c s.data.toList
  rw [data_len] at h
  have e : (pieces c s).map (·.size) = (spl c s.data.toList).map (·.length) := by
    rw [pieces, List.map_map]
    refine List.map_congr_left fun x _ => ?_
    show (str x).size = _
    rw [str_size]
  rw [e, pieces, List.length_map]
  exact h
theorem read_small {s : ByteArray} (h : boardB (pieces 47 s) = true) : s.size ≤ 71 := by
  have hb := boardB_of h
  have h1 := pieces_size 47 s
  have h2 := sum_le8 (pieces 47 s) (fun j hj => by rw [(hb.2.2 j hj).1]; exact hb.2.1.2) _ (Nat.le_refl _)
  rw [List.take_length] at h2
  have := hb.1.2
  omega
theorem gs_le_sum (ps : List ByteArray) (j : Nat) (hj : j < ps.length) : (gs ps j).size ≤ (ps.map (·.size)).sum := by
  induction ps generalizing j with
  | nil => simp at hj
  | cons x ps ih =>
    cases j with
    | zero => simp [gs]
    | succ j =>
      have := ih j (by simpa using hj)
      simp [gs] at this ⊢
      omega
theorem pieces_short (c : UInt8) (s : ByteArray) (hs : s.size ≤ 1048576) : Short (pieces c s) := fun j hj => by
  have h1 := pieces_size c s
  have h2 := gs_le_sum _ j hj
  omega
def resRead (s : ByteArray) : List ByteArray := if boardB (pieces 47 s) = true then pieces 47 s else []
theorem resRead_le (s : ByteArray) : (resRead s).length ≤ 8 := by
  unfold resRead
  split
  · rename_i h; exact (boardB_of h).1.2
  · simp

set_option maxHeartbeats 1600000 in
theorem l1Split_any (c : UInt8) (s : ByteArray) (w : World) (hs : s.size ≤ 10000000) :
    Calls Tryd.prog 47 #[.string s, .int .u8 (c.toNat : Int)] w fun e w' => ∃ A c', e = .returned (.slice A (pieces c s).length c') ∧ Own w' w.heap.size 9 (.slice A (pieces c s).length c') (scells (pieces c s)) ∧ Below w.heap.size w w' := by
  go_enter Tryd.func47, Tryd.ntmps47
  go_wp2
  go_loopw [5, 6, 7] (fun v x i wr => ∃ (k f : Nat) (A' : Option Addr) (c' : Nat) (os : List ByteArray), i = .int .i64 k ∧ k ≤ s.size ∧ x = .int .i64 f ∧ f ≤ k ∧ os.length ≤ k ∧ spl c (s.data.toList.take k) = os.map (·.data.toList) ++ [(s.data.toList.take k).drop f] ∧ v = .slice A' os.length c' ∧ Own wr w.heap.size 9 (.slice A' os.length c') (scells os) ∧ Below w.heap.size w wr) (fun _ _ i _ => s.size - (intOf i).toNat)
  case atStart => exact ⟨0, 0, _, _, [], rfl, by omega, rfl, by omega, by simp, rfl, rfl, Own.empty w 9 _ _ (Nat.le_refl _), bel1 _ _⟩
  case round =>
    obtain ⟨k, f, A', c', os, rfl, hk, rfl, hf, hol, hsp, rfl, ho, hb⟩ := hrel
    have HSP := Lib.hid hsp; clear hsp
    have HO := Lib.hid ho; clear ho
    have hzr := hb.size
    by_cases hlt : k < s.size
    · have hds : s.data.toList.take (k + 1) = s.data.toList.take k ++ [s[k]] := by
        have h' : k < s.data.toList.length := by rw [data_len]; exact hlt
        rw [List.take_succ_eq_append_getElem h']; rfl
      have hsn := spl_snoc c s[k] _ _ _ HSP.out
      rw [← hds] at hsn
      by_cases hc : s[k] = c
      · rw [if_pos hc] at hsn
        have hbq : ((s[k].toNat : Int) == (c.toNat : Int)) = true := beq_t _ rfl hc
        have hxd : (s.extract f k).data.toList = (s.data.toList.take k).drop f := by rw [Lib.extract_data, List.drop_take]
        have HSN : Hid (spl c (s.data.toList.take (k + 1)) = (os ++ [s.extract f k]).map (·.data.toList) ++ [(s.data.toList.take (k + 1)).drop (k + 1)]) := by
          show _ = _
          rw [hsn, List.map_append, ← hxd, List.drop_eq_nil_of_le (by rw [List.length_take]; omega)]
          simp
        clear hsn hds hxd hc
        go_wp2_with (at_builtin; refine append_str rfl _ _ rfl w.heap.size _ os rfl (HO.out.below (bel1 _ _)) _ (s.extract f k) rfl ((Blk.new _ _ _).cell 0) (by omega) (by simp; omega) ?_; intro A5 c5 w5 ho5 hb5 hg5)
        have HO5 := Lib.hid ho5; clear ho5
        go_roundw
        case rel => exact ⟨k + 1, k + 1, A5, c5, os ++ [s.extract f k], by go_num, by omega, by go_num, Nat.le_refl _, by rw [List.length_append, List.length_singleton]; omega, HSN.out, by rw [List.length_append]; rfl, by rw [List.length_append]; exact HO5.out, (hb.alloc hb.size _).trans hb5⟩
        case measure => simp [intOf]; omega
      · rw [if_neg hc] at hsn
        have hbq : ((s[k].toNat : Int) == (c.toNat : Int)) = false := beq_f _ rfl hc
        have HSN : Hid (spl c (s.data.toList.take (k + 1)) = os.map (·.data.toList) ++ [(s.data.toList.take (k + 1)).drop f]) := by
          show _ = _
          rw [hsn, hds, List.drop_append_of_le_length (by rw [List.length_take, data_len]; omega)]
        clear hsn hds hc
        go_wp2
        go_roundw
        case rel => exact ⟨k + 1, f, A', c', os, by go_num, by omega, rfl, by omega, by omega, HSN.out, rfl, HO.out, hb⟩
        case measure => simp [intOf]; omega
    · obtain rfl : k = s.size := by omega
      have hxd : (s.extract f s.size).data.toList = (s.data.toList.take s.size).drop f := by rw [Lib.extract_data, List.drop_take]
      have HE : Hid (s.data.toList.take s.size = s.data.toList) := List.take_of_length_le (by rw [data_len]; exact Nat.le_refl _)
      have HPC : Hid (pieces c s = os ++ [s.extract f s.size]) := by
        have h := HSP.out
        rw [← hxd, HE.out] at h
        have h2 := pieces_of h
        show _ = _
        rw [h2, ← str_of (s.extract f s.size) rfl]
      clear hxd
      go_wp2_with (at_builtin; refine append_str rfl _ _ rfl w.heap.size _ os rfl (HO.out.below (bel1 _ _)) _ (s.extract f s.size) rfl ((Blk.new _ _ _).cell 0) (by omega) (by simp; omega) ?_; intro A5 c5 w5 ho5 hb5 hg5)
      have HO5 := Lib.hid ho5; clear ho5
      go_ret
      refine ⟨A5, c5, ?_, ?_, (hb.alloc hb.size _).trans hb5⟩
      · rw [HPC.out, List.length_append]; rfl
      · rw [HPC.out, List.length_append]; exact HO5.out
end Go.Proofs.YtpepkpikeggceaaDoor
