/- Trees: good ones, and the laws' own helpers, by contracts. Conditions: none. -/
import Derived.Test.YtbhficohgdlojaaDoorStalk
import Derived.Test.YtbhficohgdlojaaDoorSl
import Derived.Test.YtbhficohgdlojaaDoorRow1
import Derived.Deep.RegionHeld3
namespace Go.Proofs.YtbhficohgdlojaaDoor
open Go.RowKit
set_option linter.unusedVariables false

def upsOk (xs : List Int) : Prop := ∀ i, i < xs.length → -1 ≤ gi xs i ∧ gi xs i < i
instance (xs : List Int) : Decidable (upsOk xs) := by unfold upsOk; infer_instance
def treeB (xs : List Int) (s : ByteArray) : Bool := signsB s 8 && decide (xs.length = s.size) && decide (upsOk xs)
theorem treeB_no {xs : List Int} {s : ByteArray} (h : ¬ (allIn [76, 82] s = true ∧ s.size ≤ 8 ∧ xs.length = s.size ∧ upsOk xs)) : treeB xs s = false := by
  rw [Bool.eq_false_iff]
  intro ht
  simp [treeB, signsB] at ht
  exact h ⟨ht.1.1.1, by omega, ht.1.2, ht.2⟩
theorem treeB_yes {xs : List Int} {s : ByteArray} (h1 : allIn [76, 82] s = true) (h2 : s.size ≤ 8) (h3 : xs.length = s.size) (h4 : upsOk xs) : treeB xs s = true := by
  have : (s.size : Int) ≤ 8 := by omega
  simp [treeB, signsB, h1, h3, h4, this]
theorem treeB_of {xs : List Int} {s : ByteArray} (h : treeB xs s = true) : allIn [76, 82] s = true ∧ s.size ≤ 8 ∧ xs.length = s.size ∧ upsOk xs := by
  simp [treeB, signsB] at h
  exact ⟨h.1.1.1, by omega, h.1.2, h.2⟩

set_option maxHeartbeats 800000 in
theorem goodTreeI_any (A : Option Addr) (c : Nat) (xs : List Int) (s : ByteArray) (w : World) (B : Nat) (hB : B ≤ w.heap.size) (h : RdI w B A c xs) (hs : s.size ≤ maxLen) :
    Calls Tryd.prog 13 #[.agg #[.slice A xs.length c, .string s]] w fun e w' => e = .returned (.bool (treeB xs s)) ∧ Below w.heap.size w w' := by
  have h1 := h.len
  have h2 := h.max
  have hs' := hs
  unfold maxLen at hs'
  by_cases h8 : (8 : Int) < xs.length
  · rw [treeB_no fun hh => by omega]
    go_enter Tryd.func13, Tryd.ntmps13
    go_wp2
    go_ret
    exact ⟨rfl, (Below.refl _ _).alloc (Nat.le_refl _) _⟩
  · by_cases hn : xs.length = s.size
    · have ht : ((xs.length : Int) != (s.size : Int)) = false := by simp [hn]
      have h8' : s.size ≤ 8 := by omega
      have HN := Lib.hid hn; clear hn
      cases ha : allIn [76, 82] s
      · rw [treeB_no fun hh => by rw [hh.1] at ha; cases ha]
        go_enter Tryd.func13, Tryd.ntmps13
        go_wp2_with fail
        have hzW : w.heap.size < (w.alloc (.cells #[.slice A xs.length c, .string s] 26)).heap.size := by simp
        have hsW : (w.alloc (.cells #[.slice A xs.length c, .string s] 26)).heap.size = w.heap.size + 1 := by simp
        have hAW : Below w.heap.size w (w.alloc (.cells #[.slice A xs.length c, .string s] 26)) := (Below.refl _ _).alloc (Nat.le_refl _) _
        have c0W : (w.alloc (.cells #[.slice A xs.length c, .string s] 26)).cell? ⟨w.heap.size, 0, none⟩ = some (.slice A xs.length c) := by simp [go_sem]
        have c1W : (w.alloc (.cells #[.slice A xs.length c, .string s] 26)).cell? ⟨w.heap.size, 1, none⟩ = some (.string s) := by simp [go_sem]
        generalize w.alloc (.cells #[.slice A xs.length c, .string s] 26) = W at *
        have hsW := Lib.hid hsW
        refine (areMarks_any s W hs).mono ?_; rintro e w1 ⟨rfl, hb1⟩
        go_wp2
        go_ret
        exact ⟨rfl, hAW.trans (hb1.mono (by omega))⟩
      · have HA := Lib.hid ha
        go_enter Tryd.func13, Tryd.ntmps13
        go_wp2_with fail
        have hzW : w.heap.size < (w.alloc (.cells #[.slice A xs.length c, .string s] 26)).heap.size := by simp
        have hsW : (w.alloc (.cells #[.slice A xs.length c, .string s] 26)).heap.size = w.heap.size + 1 := by simp
        have hAW : Below w.heap.size w (w.alloc (.cells #[.slice A xs.length c, .string s] 26)) := (Below.refl _ _).alloc (Nat.le_refl _) _
        have c0W : (w.alloc (.cells #[.slice A xs.length c, .string s] 26)).cell? ⟨w.heap.size, 0, none⟩ = some (.slice A xs.length c) := by simp [go_sem]
        have c1W : (w.alloc (.cells #[.slice A xs.length c, .string s] 26)).cell? ⟨w.heap.size, 1, none⟩ = some (.string s) := by simp [go_sem]
        generalize w.alloc (.cells #[.slice A xs.length c, .string s] 26) = W at *
        have hsW := Lib.hid hsW
        refine (areMarks_any s W hs).mono ?_; rintro e w1 ⟨rfl, hb1⟩
        have q0 := (hb1.cell (p := ⟨w.heap.size, 0, none⟩) hzW).trans c0W
        have q1 := (hb1.cell (p := ⟨w.heap.size, 1, none⟩) hzW).trans c1W
        have hbA : Below w.heap.size w w1 := hAW.trans (hb1.mono (by omega))
        have hr1 : RdI w1 B A c xs := h.below hbA hB
        clear c0W c1W
        go_wp2
        go_loop [3, 4, 27] (fun x y i => ∃ k : Nat, i = .int .i64 k ∧ k ≤ xs.length ∧ ∀ j, j < k → -1 ≤ gi xs j ∧ gi xs j < j) (fun _ _ i => xs.length - (intOf i).toNat)
        case atStart => exact ⟨0, rfl, by omega, fun j hj => absurd hj (by omega)⟩
        case round =>
          obtain ⟨k, rfl, hk, hr⟩ := hrel
          have HR := Lib.hid hr; clear hr
          by_cases hlt : k < xs.length
          · obtain ⟨b, o, rfl, hbB, hc⟩ := hr1.at (j := k) hlt
            have hc1 := hc k hlt
            clear hc
            by_cases hx : -1 ≤ gi xs k ∧ gi xs k < k
            · obtain ⟨hx1, hx2⟩ := hx
              have HX : Hid (-1 ≤ gi xs k ∧ gi xs k < k) := ⟨hx1, hx2⟩
              go_wp2
              go_round
              case rel => exact ⟨k + 1, by go_num, by omega, fun j hj => if hjk : j = k then by subst hjk; exact HX.out else HR.out j (by omega)⟩
              case measure => simp [intOf]; omega
            · have HF : Hid (treeB xs s = false) := by show _ = _; exact treeB_no fun hh => hx (hh.2.2.2 k hlt)
              by_cases hx1 : gi xs k < -1
              · clear hx
                go_wp2
                go_ret
                exact ⟨ret_bool HF.out.symm, hbA⟩
              · have hx2 : (k : Int) ≤ gi xs k := by omega
                clear hx
                go_wp2
                go_ret
                exact ⟨ret_bool HF.out.symm, hbA⟩
          · have HT : Hid (treeB xs s = true) := by show _ = _; exact treeB_yes HA.out h8' HN.out fun i hi => HR.out i (by omega)
            go_wp2
            go_ret
            exact ⟨ret_bool HT.out.symm, hbA⟩
    · have ht : ((xs.length : Int) != (s.size : Int)) = true := by simp; omega
      rw [treeB_no fun hh => hn hh.2.2.1]
      clear hn
      go_enter Tryd.func13, Tryd.ntmps13
      go_wp2_with fail
      go_ret
      exact ⟨rfl, (Below.refl _ _).alloc (Nat.le_refl _) _⟩

set_option maxHeartbeats 800000 in
theorem goodTreeS_any (A : Option Addr) (c : Nat) (xs : List Int) (s : ByteArray) (w : World) (B : Nat) (hB : B ≤ w.heap.size) (h : RdI w B A c xs) (hs : s.size ≤ maxLen) :
    Calls Tryd.prog 35 #[.agg #[.slice A xs.length c, .string s]] w fun e w' => e = .returned (.bool (treeB xs s)) ∧ Below w.heap.size w w' := by
  have h1 := h.len
  have h2 := h.max
  have hs' := hs
  unfold maxLen at hs'
  by_cases hn : xs.length = s.size
  · have ht : ((xs.length : Int) != (s.size : Int)) = false := by simp [hn]
    have HN := Lib.hid hn; clear hn
    cases ha : signsB s 8
    · rw [treeB_no fun hh => by
        have : signsB s 8 = true := by rw [signsB, hh.1]; simp; omega
        rw [this] at ha; cases ha]
      go_enter Tryd.func35, Tryd.ntmps35
      go_wp2_with (go_at_call 67; refine (signsS_any _ _ _ hs).mono ?_; rintro e w1 ⟨rfl, rfl⟩)
      go_ret
      exact ⟨rfl, (Below.refl _ _).alloc (Nat.le_refl _) _⟩
    · have HA : Hid (allIn [76, 82] s = true ∧ s.size ≤ 8) := by
        have := ha
        simp [signsB] at this
        exact ⟨this.1, by omega⟩
      have h8 : s.size ≤ 8 := HA.out.2
      go_enter Tryd.func35, Tryd.ntmps35
      go_wp2_with fail
      have hzW : w.heap.size < (w.alloc (.cells #[.slice A xs.length c, .string s] 26)).heap.size := by simp
      have hsW : (w.alloc (.cells #[.slice A xs.length c, .string s] 26)).heap.size = w.heap.size + 1 := by simp
      have hAW : Below w.heap.size w (w.alloc (.cells #[.slice A xs.length c, .string s] 26)) := (Below.refl _ _).alloc (Nat.le_refl _) _
      have c0W : (w.alloc (.cells #[.slice A xs.length c, .string s] 26)).cell? ⟨w.heap.size, 0, none⟩ = some (.slice A xs.length c) := by simp [go_sem]
      have c1W : (w.alloc (.cells #[.slice A xs.length c, .string s] 26)).cell? ⟨w.heap.size, 1, none⟩ = some (.string s) := by simp [go_sem]
      generalize w.alloc (.cells #[.slice A xs.length c, .string s] 26) = W at *
      have hsW := Lib.hid hsW
      have hr1 : RdI W B A c xs := h.below hAW hB
      go_wp2_with (go_at_call 67; refine (signsS_any _ _ _ hs).mono ?_; rintro e w1 ⟨rfl, rfl⟩)
      go_loop [3] (fun i => ∃ k : Nat, i = .int .i64 k ∧ k ≤ xs.length ∧ ∀ j, j < k → -1 ≤ gi xs j ∧ gi xs j < j) (fun i => xs.length - (intOf i).toNat)
      case atStart => exact ⟨0, rfl, by omega, fun j hj => absurd hj (by omega)⟩
      case round =>
        obtain ⟨k, rfl, hk, hr⟩ := hrel
        have HR := Lib.hid hr; clear hr
        by_cases hlt : k < xs.length
        · obtain ⟨b, o, rfl, hbB, hc⟩ := hr1.at (j := k) hlt
          have hc1 := hc k hlt
          clear hc
          cases hx : inB (gi xs k) (-1) ((k : Int) - 1)
          · have HF : Hid (treeB xs s = false) := by show _ = _; exact treeB_no fun hh => by have := hh.2.2.2 k hlt; simp [inB] at hx; omega
            go_wp2_with (go_at_call 55; refine (l1In_any _ _ _ _).mono ?_; rintro e w' ⟨rfl, rfl⟩)
            go_ret
            exact ⟨ret_bool HF.out.symm, hAW⟩
          · have HX : Hid (-1 ≤ gi xs k ∧ gi xs k < k) := by have := hx; simp [inB] at this; exact ⟨this.1, by omega⟩
            go_wp2_with (go_at_call 55; refine (l1In_any _ _ _ _).mono ?_; rintro e w' ⟨rfl, rfl⟩)
            go_round
            case rel => exact ⟨k + 1, by go_num, by omega, fun j hj => if hjk : j = k then by subst hjk; exact HX.out else HR.out j (by omega)⟩
            case measure => simp [intOf]; omega
        · have HT : Hid (treeB xs s = true) := by show _ = _; exact treeB_yes HA.out.1 h8 HN.out fun i hi => HR.out i (by omega)
          go_wp2
          go_ret
          exact ⟨ret_bool HT.out.symm, hAW⟩
  · have ht : ((xs.length : Int) != (s.size : Int)) = true := by simp; omega
    rw [treeB_no fun hh => hn hh.2.2.1]
    clear hn
    go_enter Tryd.func35, Tryd.ntmps35
    go_wp2_with fail
    go_ret
    exact ⟨rfl, (Below.refl _ _).alloc (Nat.le_refl _) _⟩

theorem OwnI.le' {w : World} {base base' : Nat} {v : Value} {xs : List Int} (h : OwnI w base v xs) (hb : base' ≤ base) : OwnI w base' v xs := own_ints.2 ((own_ints.1 h).le hb)
theorem OwnI.far' {w : World} {base : Nat} {v : Value} {xs : List Int} (h : OwnI w base v xs) (p : Addr) (u : Value) (hp : p.block < base) : OwnI (w.setCell p u) base v xs :=
  own_ints.2 ((own_ints.1 h).far p u fun e => by have := ((own_ints.1 h).lt _ e).1; omega)
/-- A new tree is handed back. -/
def RetT (w : World) (xs : List Int) (s : ByteArray) (e : Ending) (w' : World) : Prop :=
  ∃ A c, e = .returned (.agg #[.slice A xs.length c, .string s]) ∧ OwnI w' w.heap.size (.slice A xs.length c) xs ∧ Below w.heap.size w w'
end Go.Proofs.YtbhficohgdlojaaDoor
