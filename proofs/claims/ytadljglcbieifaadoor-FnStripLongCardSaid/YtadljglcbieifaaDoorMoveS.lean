/- Strips: cells, sets, by contracts. Conditions: none. -/
import Derived.Test.YtadljglcbieifaaDoorTurn
namespace Go.Proofs.YtadljglcbieifaaDoor
open Go.RowKit
set_option linter.unusedVariables false

/-- The byte at a place, 0 beyond the ends. -/
def cellv (s : ByteArray) (i : Int) : UInt8 := if h : 0 ≤ i ∧ i.toNat < s.size then s[i.toNat]'h.2 else 0
theorem cellv_in {s : ByteArray} {k : Nat} (h : k < s.size) : cellv s k = s[k] := by
  rw [cellv, dif_pos ⟨by omega, by simpa using h⟩]; rfl
theorem cellv_out {s : ByteArray} {i : Int} (h : ¬ (0 ≤ i ∧ i < s.size)) : cellv s i = 0 := by
  rw [cellv, dif_neg (by omega)]
theorem cellv_pos {s : ByteArray} {i : Int} {b : UInt8} (h : cellv s i = b) (hb : b ≠ 0) : 0 ≤ i ∧ i < s.size := by
  rcases Classical.em (0 ≤ i ∧ i < s.size) with h' | h'
  · exact h'
  · rw [cellv_out h'] at h; exact absurd h.symm hb

set_option maxHeartbeats 400000 in
theorem cell_any (s : ByteArray) (i : Int) (w : World) (hs : s.size ≤ 1000000) :
    Calls Tryd.prog 199 #[.string s, .int .i64 i] w fun e w' => e = .returned (.int .u8 ((cellv s i).toNat : Int)) ∧ w = w' := by
  by_cases h : 0 ≤ i ∧ i < s.size
  · obtain ⟨h0, h1⟩ := h
    obtain ⟨k, rfl⟩ := Int.eq_ofNat_of_zero_le h0
    have hlt : k < s.size := by omega
    have HC := Lib.hid (cellv_in hlt)
    go_enter Tryd.func199, Tryd.ntmps199
    go_wp2
    go_ret
    exact ⟨by rw [HC.out]; rfl, rfl⟩
  · have HC := Lib.hid (cellv_out h)
    by_cases h0 : i < 0
    · clear h
      go_enter Tryd.func199, Tryd.ntmps199
      go_wp2
      go_ret
      exact ⟨by rw [HC.out]; rfl, rfl⟩
    · have h1 : (s.size : Int) ≤ i := by omega
      clear h
      go_enter Tryd.func199, Tryd.ntmps199
      go_wp2
      go_ret
      exact ⟨by rw [HC.out]; rfl, rfl⟩
/-- Whether there is a cell with this mark. -/
def isB (s : ByteArray) (i : Int) (b : UInt8) : Bool := decide (0 ≤ i ∧ i < s.size ∧ cellv s i = b)
theorem isB_eq {s : ByteArray} {i : Int} {b : UInt8} (hb : b ≠ 0) : isB s i b = decide (cellv s i = b) := by
  rw [isB, Bool.eq_iff_iff, decide_eq_true_iff, decide_eq_true_iff]
  exact ⟨fun h => h.2.2, fun h => ⟨(cellv_pos h hb).1, (cellv_pos h hb).2, h⟩⟩
set_option maxHeartbeats 400000 in
theorem is_any (s : ByteArray) (i : Int) (b : UInt8) (w : World) (hs : s.size ≤ 1000000) :
    Calls Tryd.prog 196 #[.string s, .int .i64 i, .int .u8 (b.toNat : Int)] w fun e w' => e = .returned (.bool (isB s i b)) ∧ w = w' := by
  by_cases h : 0 ≤ i ∧ i < s.size
  · have hin : inB i 0 ((s.size : Int) - 1) = true := by simp [inB]; omega
    obtain ⟨h0, h1⟩ := h
    obtain ⟨k, rfl⟩ := Int.eq_ofNat_of_zero_le h0
    have hlt : k < s.size := by omega
    have HC := Lib.hid (cellv_in hlt)
    by_cases hb : s[k] = b
    · have ht : ((s[k].toNat : Int) == (b.toNat : Int)) = true := beq_t _ rfl hb
      have HB : Hid (isB s k b = true) := by show _ = _; rw [isB, decide_eq_true_iff]; exact ⟨h0, h1, by rw [HC.out]; exact hb⟩
      clear hb
      go_enter Tryd.func196, Tryd.ntmps196
      go_wp2_with (go_at_call 107; refine (l1In_any _ _ _ _).mono ?_; rintro e w' ⟨rfl, rfl⟩)
      go_ret
      exact ⟨ret_bool HB.out.symm, rfl⟩
    · have ht : ((s[k].toNat : Int) == (b.toNat : Int)) = false := beq_f _ rfl hb
      have HB : Hid (isB s k b = false) := by show _ = _; rw [isB, decide_eq_false_iff_not]; exact fun h' => hb (by rw [← HC.out]; exact h'.2.2)
      clear hb
      go_enter Tryd.func196, Tryd.ntmps196
      go_wp2_with (go_at_call 107; refine (l1In_any _ _ _ _).mono ?_; rintro e w' ⟨rfl, rfl⟩)
      go_ret
      exact ⟨ret_bool HB.out.symm, rfl⟩
  · have hin : inB i 0 ((s.size : Int) - 1) = false := by simp [inB]; omega
    have HB : Hid (isB s i b = false) := by show _ = _; rw [isB, decide_eq_false_iff_not]; exact fun h' => h ⟨h'.1, h'.2.1⟩
    clear h
    go_enter Tryd.func196, Tryd.ntmps196
    go_wp2_with (go_at_call 107; refine (l1In_any _ _ _ _).mono ?_; rintro e w' ⟨rfl, rfl⟩)
    go_ret
    exact ⟨ret_bool HB.out.symm, rfl⟩

set_option maxHeartbeats 400000 in
theorem set_any (s : ByteArray) (i k : Int) (a b : UInt8) (w : World) (hi0 : 0 ≤ i) (hi : i < s.size) (hk0 : 0 ≤ k) (hk : k < s.size) (hs : s.size ≤ 1000000) :
    Calls Tryd.prog 200 #[.string s, .int .i64 i, .int .u8 (a.toNat : Int), .int .i64 k, .int .u8 (b.toNat : Int)] w fun e w' =>
      e = .returned (.string (str ((s.data.toList.set i.toNat a).set k.toNat b))) ∧ Below w.heap.size w w' := by
  obtain ⟨i, rfl⟩ := Int.eq_ofNat_of_zero_le hi0
  obtain ⟨k, rfl⟩ := Int.eq_ofNat_of_zero_le hk0
  have hi' : i < s.size := by omega
  have hk' : k < s.size := by omega
  go_enter Tryd.func200, Tryd.ntmps200
  obtain ⟨r, hr⟩ : ∃ r, r = str ((s.data.toList.set i a).set k b) := ⟨_, rfl⟩
  have hv : ∃ v, ((s.data.toList.set i a))[k]? = some v := ⟨_, List.getElem?_eq_getElem (by rw [List.length_set, data_len]; exact hk')⟩
  obtain ⟨v, hv⟩ := hv
  have HV := Lib.hid hv; clear hv
  have HRR := Lib.hid hr; clear hr
  go_wp2_with (refine wpList_bytes rfl (.tmp 12) s rfl rfl ?_; intro c w1 hr1 hb1 hz1 hc1; have f1 := hr1.frozen i (by rw [data_len]; exact hi'); have c1 := hr1.cell i s[i] (data_at s i hi'); have hr2 := hr1.set i a; have f2 := hr2.frozen k (by rw [List.length_set, data_len]; exact hk'); have c2 := hr2.cell k v HV.out; have hr3 := hr2.set k b; have hback := hr3.back (c := c) (n := s.size) (by rw [List.length_set, List.length_set, data_len]); rw [← HRR.out] at hback; have HR := Lib.hid hr1; clear hr1 hr2 hr3)
  go_ret
  refine ⟨by rw [HRR.out]; rfl, (hb1.setCell (Nat.le_refl _) _).setCell (Nat.le_refl _) _⟩

theorem cut_set (l : List UInt8) (k : Nat) (b : UInt8) (h : k < l.length) : l.take k ++ [b] ++ l.drop (k + 1) = l.set k b := by
  rw [List.set_eq_take_append_cons_drop, if_pos h]; simp
set_option maxHeartbeats 400000 in
theorem setS_any (s g : ByteArray) (i : Int) (b : UInt8) (w : World) (hi0 : 0 ≤ i) (hi : i < s.size) (hs : s.size ≤ 1000000) (hg : Hid (g.data.toList = [b])) (hgz : g.size ≤ 1) :
    Calls Tryd.prog 197 #[.string s, .int .i64 i, .string g] w fun e w' => e = .returned (.string (str (s.data.toList.set i.toNat b))) ∧ Below w.heap.size w w' := by
  obtain ⟨k, rfl⟩ := Int.eq_ofNat_of_zero_le hi0
  have hk : k < s.size := by omega
  obtain ⟨p, hp⟩ : ∃ p, p = s.extract 0 k := ⟨_, rfl⟩
  obtain ⟨q, hq⟩ : ∃ q, q = s.extract (k + 1) s.size := ⟨_, rfl⟩
  have hpl : p.data.toList = s.data.toList.take k := by rw [hp, data_slice]; simp
  have hql : q.data.toList = s.data.toList.drop (k + 1) := by rw [hq, data_slice]; exact List.take_of_length_le (by rw [List.length_drop, data_len]; omega)
  have hpz : p.size ≤ k := by rw [← data_len, hpl, List.length_take]; omega
  have hqz : q.size ≤ s.size := by rw [← data_len, hql, List.length_drop, data_len]; omega
  obtain ⟨pg, hpg⟩ : ∃ pg, pg = p ++ g := ⟨_, rfl⟩
  obtain ⟨r, hr⟩ : ∃ r, r = pg ++ q := ⟨_, rfl⟩
  have HE : Hid (r = str (s.data.toList.set k b)) := by
    show _ = _
    refine str_of _ ?_
    rw [hr, hpg, data_append, data_append, hpl, hql, hg.out, cut_set _ _ _ (by rw [data_len]; exact hk)]
  have hpgz : pg.size ≤ k + 1 := by rw [hpg, ByteArray.size_append]; omega
  have hadd1 := fun w => run_string_add_sum (P := Tryd.prog) w p g (by omega)
  have hadd2 := fun w => run_string_add_sum (P := Tryd.prog) w pg q (by omega)
  rw [← hpg] at hadd1
  rw [← hr] at hadd2
  rw [hp] at hadd1
  rw [hq] at hadd2
  clear hp hq hpl hql hpg hr
  go_enter Tryd.func197, Tryd.ntmps197
  go_wp2
  go_quiet (fail)
  go_wp2
  go_ret
  exact ⟨by rw [HE.out]; rfl, bdrew (Below.refl _ _) _⟩
end Go.Proofs.YtadljglcbieifaaDoor
