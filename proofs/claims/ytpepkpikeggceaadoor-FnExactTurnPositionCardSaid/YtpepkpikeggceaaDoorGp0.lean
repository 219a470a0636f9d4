/- A component's kind and heap, by contracts. Conditions: none. -/
import Derived.Test.YtpepkpikeggceaaDoorSing
import Derived.Test.YtpepkpikeggceaaDoorStr
namespace Go.Proofs.YtpepkpikeggceaaDoor
open Go.RowKit
set_option linter.unusedVariables false

/-- The kind of a verb's strip. -/
def skOf (a : ByteArray) : Int := if (a.toList == [116, 111, 97, 100, 115]) = true then 0 else if (a.toList == [99, 108, 111, 98]) = true then 1 else if (a.toList == [117, 110, 108, 105, 107, 101]) = true then 2 else if (a.toList == [97, 108, 105, 107, 101]) = true then 3 else -1

set_option maxHeartbeats 400000 in
theorem stripKind_any (a t : ByteArray) (w : World) :
    Calls Tryd.prog 30 #[.agg #[.string a, .string t]] w fun e w' => e = .returned (.int .i64 (skOf a)) ∧ Below w.heap.size w w' := by
  obtain ⟨x, hx⟩ : ∃ x, x = skOf a := ⟨_, rfl⟩
  rw [← hx]
  have HX := Lib.hid hx
  clear hx
  cases h0 : (a.toList == [116, 111, 97, 100, 115])
  · cases h1 : (a.toList == [99, 108, 111, 98])
    · cases h2 : (a.toList == [117, 110, 108, 105, 107, 101])
      · cases h3 : (a.toList == [97, 108, 105, 107, 101])
        all_goals
          first
            | (have HY : Hid (x = 3) := Lib.hid (by rw [HX.out]; unfold skOf; rw [h0, h1, h2, h3]; rfl))
            | (have HY : Hid (x = -1) := Lib.hid (by rw [HX.out]; unfold skOf; rw [h0, h1, h2, h3]; rfl))
          go_enter Tryd.func30, Tryd.ntmps30
          go_wp2
          go_ret
          exact ⟨by rw [HY.out]; rfl, by first | exact Below.refl _ _ | exact bel1 _ _⟩
      · have HY : Hid (x = 2) := Lib.hid (by rw [HX.out]; unfold skOf; rw [h0, h1, h2]; rfl)
        go_enter Tryd.func30, Tryd.ntmps30
        go_wp2
        go_ret
        exact ⟨by rw [HY.out]; rfl, by first | exact Below.refl _ _ | exact bel1 _ _⟩
    · have HY : Hid (x = 1) := Lib.hid (by rw [HX.out]; unfold skOf; rw [h0, h1]; rfl)
      go_enter Tryd.func30, Tryd.ntmps30
      go_wp2
      go_ret
      exact ⟨by rw [HY.out]; rfl, by first | exact Below.refl _ _ | exact bel1 _ _⟩
  · have HY : Hid (x = 0) := Lib.hid (by rw [HX.out]; unfold skOf; rw [h0]; rfl)
    go_enter Tryd.func30, Tryd.ntmps30
    go_wp2
    go_ret
    exact ⟨by rw [HY.out]; rfl, by first | exact Below.refl _ _ | exact bel1 _ _⟩

/-- The heap of a text, or -1. -/
def hpOf (t : ByteArray) : Int := match t.data.toList with | [c] => if 48 ≤ c.toNat ∧ c.toNat ≤ 55 then (c.toNat : Int) - 48 else -1 | _ => -1
theorem hpOf_len {t : ByteArray} (h : t.size ≠ 1) : hpOf t = -1 := by
  unfold hpOf
  have := data_len t
  split
  · rename_i c hc; rw [hc] at this; simp at this; omega
  · rfl
theorem hpOf_one {t : ByteArray} {c : UInt8} (h : t.data.toList = [c]) : hpOf t = if 48 ≤ c.toNat ∧ c.toNat ≤ 55 then (c.toNat : Int) - 48 else -1 := by unfold hpOf; rw [h]

set_option maxHeartbeats 800000 in
theorem heap_any (a t : ByteArray) (w : World) (hm : t.size ≤ 1048576) :
    Calls Tryd.prog 43 #[.agg #[.string a, .string t]] w fun e w' => e = .returned (.int .i64 (hpOf t)) ∧ Below w.heap.size w w' := by
  by_cases h1 : t.size = 1
  · obtain ⟨c, hc⟩ : ∃ c, t.data.toList = [c] := by
      have := data_len t
      rw [h1] at this
      match hh : t.data.toList, this with
      | [c], _ => exact ⟨c, rfl⟩
    have HH := Lib.hid (hpOf_one hc)
    have hcn : c.toNat < 256 := c.toNat_lt
    have hts : t = str [c] := by exact ByteArray.ext (Array.toList_inj.1 (by rw [hc]; rfl))
    subst hts
    clear hc
    have e0 : ∀ hh : 0 < (str [c]).size, ((str [c])[0]'hh).toNat = c.toNat := fun _ => rfl
    have e1 : 0 < (str [c]).size := by omega
    have e2 := e0 e1
    have E2 := Lib.hid e2
    clear e0 e2
    go_enter Tryd.func43, Tryd.ntmps43
    go_wp2
    all_goals
      go_ret
      refine ⟨?_, by first | exact Below.refl _ _ | exact bel1 _ _⟩
      rw [HH.out]
      have e2 := E2.out
      first
        | (rw [if_neg (by omega)]; rfl)
        | (rw [if_pos (by omega)]; rw [← e2]; rfl)
  · have HH := Lib.hid (hpOf_len h1)
    have hn : ¬ ((t.size : Int) = 1) := by omega
    clear h1
    go_enter Tryd.func43, Tryd.ntmps43
    go_wp2
    go_ret
    exact ⟨by rw [HH.out]; rfl, by first | exact Below.refl _ _ | exact bel1 _ _⟩
end Go.Proofs.YtpepkpikeggceaaDoor
