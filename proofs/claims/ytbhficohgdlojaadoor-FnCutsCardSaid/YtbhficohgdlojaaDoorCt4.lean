/- The cuts of a player: contracts. Conditions: none. -/
import Derived.Test.YtbhficohgdlojaaDoorCt2
import Derived.Test.YtbhficohgdlojaaDoorCt3
namespace Go.Proofs.YtbhficohgdlojaaDoor
open Go.RowKit
set_option linter.unusedVariables false

theorem cutsL_len (xs : List Int) (s : ByteArray) (left : Bool) (k : Nat) : (cutsL xs s left k).length ≤ k := by
  induction k with
  | zero => exact Nat.le_refl _
  | succ k ih =>
    show (if _ then _ else _ : List _).length ≤ _
    split
    · rw [List.length_append, List.length_singleton]; omega
    · omega
theorem byte_L {s : ByteArray} (h : allIn [76, 82] s = true) {i : Nat} (hi : i < s.size) : ((((s[i]).toNat : Int)) == 76) = (s.data.toList.getD i 0 == 76) := by
  have h1 := allIn_true.1 h i hi
  have h2 : (s.data.toList.getD i 0) = s[i] := by
    rw [List.getD_eq_getElem?_getD, List.getElem?_eq_getElem (by simpa using hi)]
    rfl
  rw [h2]
  simp at h1
  rcases h1 with e | e <;> rw [e] <;> rfl


set_option maxRecDepth 100000 in
set_option maxHeartbeats 1600000 in
theorem cutsI_any (A : Option Addr) (c : Nat) (xs : List Int) (s : ByteArray) (left : Bool) (w : World) (B : Nat) (hB : B ≤ w.heap.size) (h : RdI w B A c xs) (hg : treeB xs s = true) :
    Calls Tryd.prog 34 #[.agg #[.slice A xs.length c, .string s], .bool left] w fun e w' => ∃ v, e = .returned v ∧ FrT w' w.heap.size v (cutsL xs s left xs.length) ∧ Below w.heap.size w w' := by
  have h1 := h.len
  have h2 := h.max
  obtain ⟨t1, t2, t3, t4⟩ := treeB_of hg
  have h8 : xs.length ≤ 8 := by omega
  have HN := Lib.hid t3
  have HA := Lib.hid t1
  have HCUT : Hid (∀ k, k < xs.length → ∀ W, Below w.heap.size w W → Calls Tryd.prog 66 #[.agg #[.slice A xs.length c, .string s], .int .i64 k] W (RetT W (cutT xs s k).1 (cutT xs s k).2)) := fun k hk W hW => cutI_any A c xs s k W B (by have := hW.size; omega) (h.below hW hB) hg hk
  have HL : Hid (∀ k, (cutsL xs s left k).length ≤ k) := fun k => cutsL_len xs s left k
  have HST : Hid (∀ k, cutsL xs s left (k + 1) = if ((s.data.toList.getD k 0 == 76) == left) = true then cutsL xs s left k ++ [cutT xs s k] else cutsL xs s left k) := fun k => rfl
  have HZ : Hid (cutsL xs s left 0 = []) := rfl
  clear hg t1 t2 t3 t4
  go_enter Tryd.func34, Tryd.ntmps34
  have e0 : Blk ((w.alloc (.cells #[.slice A xs.length c, .string s] 26)).alloc (.cells #[] 26)) w.heap.size 26 #[.slice A xs.length c, .string s] := (Blk.new w _ _).alloc _
  have q00 : ∀ o', ((w.alloc (.cells #[.slice A xs.length c, .string s] 26)).alloc o').cell? ⟨w.heap.size, 0, none⟩ = some (.slice A xs.length c) := fun o' => ((Blk.new w _ _).alloc _).cell 0
  go_wp2
  have oV : ((w.alloc (.cells #[.slice A xs.length c, .string s] 26)).alloc (.cells #[] 26)).ownsRow (w.heap.size + 1) 26 2 (.slice (some ⟨w.heap.size + 1, 0, none⟩) 0 0) 0 [] := by
    have := ownsK_empty (w.alloc (.cells #[.slice A xs.length c, .string s] 26)) 26 2 (w.heap.size + 1) (by simp)
    simpa using this
  have hbV : Below w.heap.size w ((w.alloc (.cells #[.slice A xs.length c, .string s] 26)).alloc (.cells #[] 26)) := bel2 _ _ _
  have hzV : w.heap.size + 2 ≤ ((w.alloc (.cells #[.slice A xs.length c, .string s] 26)).alloc (.cells #[] 26)).heap.size := by simp
  have fV := FrT.nil oV
  clear oV q00
  generalize (w.alloc (.cells #[.slice A xs.length c, .string s] 26)).alloc (.cells #[] 26) = V at *
  go_loopw [5, 6, 11] (fun x y i wr => ∃ k : Nat, i = .int .i64 k ∧ k ≤ xs.length ∧ FrT wr (w.heap.size + 1) x (cutsL xs s left k) ∧ Blk wr w.heap.size 26 #[.slice A xs.length c, .string s] ∧ Below w.heap.size w wr ∧ w.heap.size + 1 ≤ wr.heap.size) (fun _ _ i _ => xs.length - (intOf i).toNat)
  case atStart => exact ⟨0, rfl, by omega, by rw [HZ.out]; exact fV, e0, hbV, by omega⟩
  case round =>
    clear fV e0 hbV hzV
    obtain ⟨k, rfl, hk, fx, e0, hb, hz⟩ := hrel
    have hlk := HL.out k
    have q0 : wr.cell? ⟨w.heap.size, 0, none⟩ = some (.slice A xs.length c) := e0.cell 0
    have q1 : wr.cell? ⟨w.heap.size, 1, none⟩ = some (.string s) := e0.cell 1
    have fx0 := fx
    obtain ⟨A', c', rfl⟩ := fx0.form
    by_cases hlt : k < xs.length
    · have hks : k < s.size := by rw [← HN.out]; exact hlt
      have hat := byte_L HA.out hks
      have hst := HST.out k
      obtain ⟨bb, hbb⟩ : ∃ bb, bb = (s.data.toList.getD k 0 == 76) := ⟨_, rfl⟩
      rw [← hbb] at hat hst
      clear hbb
      by_cases hm : bb = left
      · rw [hm] at hat hst
        have e : (left == left) = true := by simp
        rw [e, if_pos rfl] at hst
        have HS2 := Lib.hid hst
        obtain ⟨t, ht⟩ : ∃ t, t = cutT xs s k := ⟨_, rfl⟩
        have HC : Hid (∀ W, Below w.heap.size w W → Calls Tryd.prog 66 #[.agg #[.slice A xs.length c, .string s], .int .i64 k] W (RetT W t.1 t.2)) := by rw [ht]; exact HCUT.out k hlt
        rw [← ht] at HS2
        obtain ⟨ous, st⟩ := t
        have FX := Lib.hid fx
        clear ht hst hm bb fx fx0
        generalize cutsL xs s left k = ts at *
        go_wp2_with fail
        ((with_reducible refine (HC.out _ hb).mono ?_); rintro e w1 ⟨A1, c1, rfl, ho1, hb1⟩)
        have f0 := e0.below hb1 e0.lt
        have g1 := gtr hb hb1
        have FO : Hid (Own w1 wr.heap.size 3 (.slice A1 ous.length c1) (ints ous)) := own_ints.1 ho1
        have HB1 := Lib.hid hb1
        have hz1 := hb1.size
        clear ho1 hb1
        obtain ⟨us, hus⟩ := FX.out
        have hown1 := ownsK_below hus.1 HB1.out
        go_wp2_with (at_builtin; refine append_k_at rfl _ _ 29 26 (.agg #[.slice none 0 0, .string ⟨#[]⟩]) 2 40 rfl Tryd.underlying29 infoTree rfl (by omega) (by omega) (w.heap.size + 1) (.slice A' ts.length c') ts.length (flT us ts) rfl (ownsK_below hown1 (bel1 _ _)) _ #[.slice A1 ous.length c1, .string st] rfl (Blk.new_at _ _ _ (by simp)) rfl (fun u hu => by simp at hu; rcases hu with rfl | rfl <;> rfl) (by omega) (by simp; omega) ?_; intro A5 c5 w5 ho5 hb5 hg5 hp5)
        have f5 : FrT w5 (w.heap.size + 1) (.slice A5 (ts.length + 1) c5) (ts ++ [(ous, st)]) := FrT.push hus (by omega) HB1.out FO.out (bel1 _ _) ho5 hg5 hp5
        have hbb : Below (w.heap.size + 1) w1 w5 := ((Below.refl _ w1).alloc (by omega) _).trans hb5
        have hz5 := hbb.size
        clear ho5 hg5 hp5 hus hown1
        go_roundw
        case rel => exact ⟨k + 1, by go_num, by omega, by rw [HS2.out]; exact f5, f0.below hbb (by omega), g1.trans (hbb.mono (by omega)), by omega⟩
        case measure => simp [intOf]; omega
      · have e : (bb == left) = false := by simpa using hm
        rw [e, if_neg (by decide)] at hst
        have hne : bb = !left := by cases bb <;> cases left <;> simp at hm <;> rfl
        rw [hne] at hat
        have HS2 := Lib.hid hst
        have FX := Lib.hid fx
        clear hst hm e hne bb fx fx0
        cases left
        all_goals
          go_wp2
          go_roundw
          case rel => exact ⟨k + 1, by go_num, by omega, by rw [HS2.out]; exact FX.out, e0, hb, hz⟩
          case measure => simp [intOf]; omega
    · obtain rfl : k = xs.length := by omega
      have FX := Lib.hid fx
      clear fx fx0
      go_wp2
      go_ret
      exact ⟨_, rfl, FX.out.le (by omega), hb⟩


set_option maxRecDepth 100000 in
set_option maxHeartbeats 1600000 in
theorem cutsS_any (A : Option Addr) (c : Nat) (xs : List Int) (s : ByteArray) (left : Bool) (w : World) (B : Nat) (hB : B ≤ w.heap.size) (h : RdI w B A c xs) (hg : treeB xs s = true) :
    Calls Tryd.prog 36 #[.agg #[.slice A xs.length c, .string s], .bool left] w fun e w' => ∃ v, e = .returned v ∧ FrT w' w.heap.size v (cutsL xs s left xs.length) ∧ Below w.heap.size w w' := by
  have h1 := h.len
  have h2 := h.max
  obtain ⟨t1, t2, t3, t4⟩ := treeB_of hg
  have h8 : xs.length ≤ 8 := by omega
  have HN := Lib.hid t3
  have HA := Lib.hid t1
  have HCUT : Hid (∀ k, k < xs.length → ∀ W, Below w.heap.size w W → Calls Tryd.prog 68 #[.agg #[.slice A xs.length c, .string s], .int .i64 k] W (RetT W (cutT xs s k).1 (cutT xs s k).2)) := fun k hk W hW => cutS_any A c xs s k W B (by have := hW.size; omega) (h.below hW hB) hg hk
  have HL : Hid (∀ k, (cutsL xs s left k).length ≤ k) := fun k => cutsL_len xs s left k
  have HST : Hid (∀ k, cutsL xs s left (k + 1) = if ((s.data.toList.getD k 0 == 76) == left) = true then cutsL xs s left k ++ [cutT xs s k] else cutsL xs s left k) := fun k => rfl
  have HZ : Hid (cutsL xs s left 0 = []) := rfl
  clear hg t1 t2 t3 t4
  go_enter Tryd.func36, Tryd.ntmps36
  have e0 : Blk ((w.alloc (.cells #[.slice A xs.length c, .string s] 26)).alloc (.cells #[] 26)) w.heap.size 26 #[.slice A xs.length c, .string s] := (Blk.new w _ _).alloc _
  have q00 : ∀ o', ((w.alloc (.cells #[.slice A xs.length c, .string s] 26)).alloc o').cell? ⟨w.heap.size, 0, none⟩ = some (.slice A xs.length c) := fun o' => ((Blk.new w _ _).alloc _).cell 0
  go_wp2
  have oV : ((w.alloc (.cells #[.slice A xs.length c, .string s] 26)).alloc (.cells #[] 26)).ownsRow (w.heap.size + 1) 26 2 (.slice (some ⟨w.heap.size + 1, 0, none⟩) 0 0) 0 [] := by
    have := ownsK_empty (w.alloc (.cells #[.slice A xs.length c, .string s] 26)) 26 2 (w.heap.size + 1) (by simp)
    simpa using this
  have hbV : Below w.heap.size w ((w.alloc (.cells #[.slice A xs.length c, .string s] 26)).alloc (.cells #[] 26)) := bel2 _ _ _
  have hzV : w.heap.size + 2 ≤ ((w.alloc (.cells #[.slice A xs.length c, .string s] 26)).alloc (.cells #[] 26)).heap.size := by simp
  have fV := FrT.nil oV
  clear oV q00
  generalize (w.alloc (.cells #[.slice A xs.length c, .string s] 26)).alloc (.cells #[] 26) = V at *
  go_loopw [5, 6] (fun x i wr => ∃ k : Nat, i = .int .i64 k ∧ k ≤ xs.length ∧ FrT wr (w.heap.size + 1) x (cutsL xs s left k) ∧ Blk wr w.heap.size 26 #[.slice A xs.length c, .string s] ∧ Below w.heap.size w wr ∧ w.heap.size + 1 ≤ wr.heap.size) (fun _ i _ => xs.length - (intOf i).toNat)
  case atStart => exact ⟨0, rfl, by omega, by rw [HZ.out]; exact fV, e0, hbV, by omega⟩
  case round =>
    clear fV e0 hbV hzV
    obtain ⟨k, rfl, hk, fx, e0, hb, hz⟩ := hrel
    have hlk := HL.out k
    have q0 : wr.cell? ⟨w.heap.size, 0, none⟩ = some (.slice A xs.length c) := e0.cell 0
    have q1 : wr.cell? ⟨w.heap.size, 1, none⟩ = some (.string s) := e0.cell 1
    have fx0 := fx
    obtain ⟨A', c', rfl⟩ := fx0.form
    by_cases hlt : k < xs.length
    · have hks : k < s.size := by rw [← HN.out]; exact hlt
      have hat := byte_L HA.out hks
      have hst := HST.out k
      obtain ⟨bb, hbb⟩ : ∃ bb, bb = (s.data.toList.getD k 0 == 76) := ⟨_, rfl⟩
      rw [← hbb] at hat hst
      clear hbb
      by_cases hm : bb = left
      · rw [hm] at hat hst
        have e : (left == left) = true := by simp
        rw [e, if_pos rfl] at hst
        have HS2 := Lib.hid hst
        obtain ⟨t, ht⟩ : ∃ t, t = cutT xs s k := ⟨_, rfl⟩
        have HC : Hid (∀ W, Below w.heap.size w W → Calls Tryd.prog 68 #[.agg #[.slice A xs.length c, .string s], .int .i64 k] W (RetT W t.1 t.2)) := by rw [ht]; exact HCUT.out k hlt
        rw [← ht] at HS2
        obtain ⟨ous, st⟩ := t
        have FX := Lib.hid fx
        clear ht hst hm bb fx fx0
        generalize cutsL xs s left k = ts at *
        go_wp2_with fail
        ((with_reducible refine (HC.out _ hb).mono ?_); rintro e w1 ⟨A1, c1, rfl, ho1, hb1⟩)
        have f0 := e0.below hb1 e0.lt
        have g1 := gtr hb hb1
        have FO : Hid (Own w1 wr.heap.size 3 (.slice A1 ous.length c1) (ints ous)) := own_ints.1 ho1
        have HB1 := Lib.hid hb1
        have hz1 := hb1.size
        clear ho1 hb1
        obtain ⟨us, hus⟩ := FX.out
        have hown1 := ownsK_below hus.1 HB1.out
        go_wp2_with (at_builtin; refine append_k_at rfl _ _ 29 26 (.agg #[.slice none 0 0, .string ⟨#[]⟩]) 2 40 rfl Tryd.underlying29 infoTree rfl (by omega) (by omega) (w.heap.size + 1) (.slice A' ts.length c') ts.length (flT us ts) rfl (ownsK_below hown1 (bel1 _ _)) _ #[.slice A1 ous.length c1, .string st] rfl (Blk.new_at _ _ _ (by simp)) rfl (fun u hu => by simp at hu; rcases hu with rfl | rfl <;> rfl) (by omega) (by simp; omega) ?_; intro A5 c5 w5 ho5 hb5 hg5 hp5)
        have f5 : FrT w5 (w.heap.size + 1) (.slice A5 (ts.length + 1) c5) (ts ++ [(ous, st)]) := FrT.push hus (by omega) HB1.out FO.out (bel1 _ _) ho5 hg5 hp5
        have hbb : Below (w.heap.size + 1) w1 w5 := ((Below.refl _ w1).alloc (by omega) _).trans hb5
        have hz5 := hbb.size
        clear ho5 hg5 hp5 hus hown1
        go_roundw
        case rel => exact ⟨k + 1, by go_num, by omega, by rw [HS2.out]; exact f5, f0.below hbb (by omega), g1.trans (hbb.mono (by omega)), by omega⟩
        case measure => simp [intOf]; omega
      · have e : (bb == left) = false := by simpa using hm
        rw [e, if_neg (by decide)] at hst
        have hne : bb = !left := by cases bb <;> cases left <;> simp at hm <;> rfl
        rw [hne] at hat
        have HS2 := Lib.hid hst
        have FX := Lib.hid fx
        clear hst hm e hne bb fx fx0
        cases left
        all_goals
          go_wp2
          go_roundw
          case rel => exact ⟨k + 1, by go_num, by omega, by rw [HS2.out]; exact FX.out, e0, hb, hz⟩
          case measure => simp [intOf]; omega
    · obtain rfl : k = xs.length := by omega
      have FX := Lib.hid fx
      clear fx fx0
      go_wp2
      go_ret
      exact ⟨_, rfl, FX.out.le (by omega), hb⟩

end Go.Proofs.YtbhficohgdlojaaDoor
