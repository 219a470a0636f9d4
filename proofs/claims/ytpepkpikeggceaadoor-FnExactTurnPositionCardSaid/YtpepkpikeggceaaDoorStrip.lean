/- Strips that are good: the program's test and the reference's, by contracts. Conditions: none. -/
import Derived.Test.YtpepkpikeggceaaDoorStalk
namespace Go.Proofs.YtpepkpikeggceaaDoor
open Go.RowKit
set_option linter.unusedVariables false

/-- The marks of a kind. -/
def marksOf (kind : Int) : List UInt8 := if kind = 0 then [84, 70, 46] else [76, 82, 46]
def stripB (kind : Int) (s : ByteArray) : Bool := decide (0 ≤ kind) && decide (kind ≤ 3) && decide ((s.size : Int) ≤ 12) && allIn (marksOf kind) s
theorem stripB_mk {kind : Int} {s : ByteArray} (h1 : 0 ≤ kind) (h2 : kind ≤ 3) (h3 : (s.size : Int) ≤ 12) : stripB kind s = allIn (marksOf kind) s := by simp [stripB, h1, h2, h3]
theorem stripB_no {kind : Int} {s : ByteArray} (h : ¬ (0 ≤ kind ∧ kind ≤ 3 ∧ (s.size : Int) ≤ 12)) : stripB kind s = false := by
  rw [Bool.eq_false_iff]
  intro ht
  simp [stripB] at ht
  exact h ⟨ht.1.1.1, ht.1.1.2, by omega⟩
theorem stripB_of {kind : Int} {s : ByteArray} (h : stripB kind s = true) : 0 ≤ kind ∧ kind ≤ 3 ∧ s.size ≤ 12 ∧ allIn (marksOf kind) s = true := by
  simp [stripB] at h
  exact ⟨h.1.1.1, h.1.1.2, by omega, h.2⟩

set_option maxHeartbeats 400000 in
theorem goodStripI_any (kind : Int) (s : ByteArray) (w : World) (hs : s.size ≤ maxLen) :
    Calls Tryd.prog 44 #[.int .i64 kind, .string s] w fun e w' => e = .returned (.bool (stripB kind s)) ∧ Below w.heap.size w w' := by
  by_cases h : 0 ≤ kind ∧ kind ≤ 3 ∧ (s.size : Int) ≤ 12
  · obtain ⟨h1, h2, h3⟩ := h
    rw [stripB_mk h1 h2 h3]
    by_cases hk : kind = 0
    · subst hk
      have hT := trimmed_any [84, 70, 46] (by decide) (by decide) s w hs
      go_enter Tryd.func44, Tryd.ntmps44
      go_wp2_with (go_at_call 62; refine hT.mono ?_; rintro e w' ⟨rfl, hb⟩)
      go_ret
      exact ⟨ret_bool (by first | exact trim_isEmpty _ _ | exact trim_empty _ _), hb⟩
    · have hT := trimmed_any [76, 82, 46] (by decide) (by decide) s w hs
      have hm : Hid (marksOf kind = [76, 82, 46]) := if_neg hk
      have ht : (kind == 0) = false := by simp [hk]
      go_enter Tryd.func44, Tryd.ntmps44
      go_wp2_with (go_at_call 62; refine hT.mono ?_; rintro e w' ⟨rfl, hb⟩)
      go_ret
      exact ⟨ret_bool (by rw [hm.out]; first | exact trim_isEmpty _ _ | exact trim_empty _ _), hb⟩
  · rw [stripB_no h]
    by_cases h1 : kind < 0
    · go_enter Tryd.func44, Tryd.ntmps44
      go_wp2_with fail
      go_ret
      exact ⟨rfl, Below.refl _ _⟩
    · by_cases h2 : 3 < kind
      · go_enter Tryd.func44, Tryd.ntmps44
        go_wp2_with fail
        go_ret
        exact ⟨rfl, Below.refl _ _⟩
      · have h3 : (12 : Int) < s.size := by omega
        go_enter Tryd.func44, Tryd.ntmps44
        go_wp2_with fail
        go_ret
        exact ⟨rfl, Below.refl _ _⟩

set_option maxHeartbeats 800000 in
theorem goodStripS_any (kind : Int) (s : ByteArray) (w : World) (hs : s.size ≤ maxLen) :
    Calls Tryd.prog 33 #[.int .i64 kind, .string s] w fun e w' => e = .returned (.bool (stripB kind s)) ∧ w = w' := by
  unfold maxLen at hs
  by_cases h : 0 ≤ kind ∧ kind ≤ 3 ∧ (s.size : Int) ≤ 12
  · obtain ⟨h1, h2, h3⟩ := h
    rw [stripB_mk h1 h2 h3]
    have hin : inB kind 0 3 = true := by simp [inB]; omega
    go_enter Tryd.func33, Tryd.ntmps33
    go_wp2_with (go_at_call 37; refine (l1In_any _ _ _ _).mono ?_; rintro e w' ⟨rfl, rfl⟩)
    go_loop [5, 6] (fun i o => ∃ k : Nat, i = .int .i64 k ∧ k ≤ s.size ∧ ∀ j (h : j < s.size), j < k → (marksOf kind).contains s[j] = true) (fun i _ => s.size - (intOf i).toNat)
    case atStart => exact ⟨0, rfl, by omega, fun j _ hj => absurd hj (by omega)⟩
    case round =>
      obtain ⟨k, rfl, hk, hr⟩ := hrel
      have HR := Lib.hid hr; clear hr
      by_cases hlt : k < s.size
      · by_cases hk0 : kind = 0
        · subst hk0
          by_cases c1 : s[k] = 46
          · have t1 := beq_t 46 rfl c1
            have HE : Hid ((marksOf 0).contains s[k] = true) := by show (marksOf 0).contains s[k] = true; rw [c1]; decide
            clear c1
            go_wp2
            go_round
            case rel => exact ⟨k + 1, by go_num, by omega, fun j h hj => if hjk : j = k then by subst hjk; exact HE.out else HR.out j h (by omega)⟩
            case measure => simp [intOf]; omega
          · have t1 := beq_f 46 rfl c1
            by_cases c2 : s[k] = 84
            · have t2 := beq_t 84 rfl c2
              have HE : Hid ((marksOf 0).contains s[k] = true) := by show (marksOf 0).contains s[k] = true; rw [c2]; decide
              clear c1 c2
              go_wp2
              go_round
              case rel => exact ⟨k + 1, by go_num, by omega, fun j h hj => if hjk : j = k then by subst hjk; exact HE.out else HR.out j h (by omega)⟩
              case measure => simp [intOf]; omega
            · have t2 := beq_f 84 rfl c2
              by_cases c3 : s[k] = 70
              · have t3 := beq_t 70 rfl c3
                have HE : Hid ((marksOf 0).contains s[k] = true) := by show (marksOf 0).contains s[k] = true; rw [c3]; decide
                clear c1 c2 c3
                go_wp2
                go_round
                case rel => exact ⟨k + 1, by go_num, by omega, fun j h hj => if hjk : j = k then by subst hjk; exact HE.out else HR.out j h (by omega)⟩
                case measure => simp [intOf]; omega
              · have t3 := beq_f 70 rfl c3
                have HE : Hid (allIn (marksOf 0) s = false) := allIn_false k hlt (by simp [marksOf, c1, c2, c3])
                clear c1 c2 c3
                go_wp2
                go_ret
                exact ⟨ret_bool HE.out.symm, rfl⟩
        · have hkt : (kind == 0) = false := by simp [hk0]
          have HM : Hid (marksOf kind = [76, 82, 46]) := if_neg hk0
          clear hk0
          by_cases c1 : s[k] = 46
          · have t1 := beq_t 46 rfl c1
            have HE : Hid ((marksOf kind).contains s[k] = true) := by show (marksOf kind).contains s[k] = true; rw [HM.out, c1]; decide
            clear c1
            go_wp2
            go_round
            case rel => exact ⟨k + 1, by go_num, by omega, fun j h hj => if hjk : j = k then by subst hjk; exact HE.out else HR.out j h (by omega)⟩
            case measure => simp [intOf]; omega
          · have t1 := beq_f 46 rfl c1
            by_cases c2 : s[k] = 76
            · have t2 := beq_t 76 rfl c2
              have HE : Hid ((marksOf kind).contains s[k] = true) := by show (marksOf kind).contains s[k] = true; rw [HM.out, c2]; decide
              clear c1 c2
              go_wp2
              go_round
              case rel => exact ⟨k + 1, by go_num, by omega, fun j h hj => if hjk : j = k then by subst hjk; exact HE.out else HR.out j h (by omega)⟩
              case measure => simp [intOf]; omega
            · have t2 := beq_f 76 rfl c2
              by_cases c3 : s[k] = 82
              · have t3 := beq_t 82 rfl c3
                have HE : Hid ((marksOf kind).contains s[k] = true) := by show (marksOf kind).contains s[k] = true; rw [HM.out, c3]; decide
                clear c1 c2 c3
                go_wp2
                go_round
                case rel => exact ⟨k + 1, by go_num, by omega, fun j h hj => if hjk : j = k then by subst hjk; exact HE.out else HR.out j h (by omega)⟩
                case measure => simp [intOf]; omega
              · have t3 := beq_f 82 rfl c3
                have HE : Hid (allIn (marksOf kind) s = false) := allIn_false k hlt (by rw [HM.out]; simp [c1, c2, c3])
                clear c1 c2 c3
                go_wp2
                go_ret
                exact ⟨ret_bool HE.out.symm, rfl⟩
      · have HE : Hid (allIn (marksOf kind) s = true) := allIn_true.2 fun j h => HR.out j h (by omega)
        go_wp2
        go_ret
        exact ⟨ret_bool HE.out.symm, rfl⟩
  · rw [stripB_no h]
    by_cases h1 : 0 ≤ kind ∧ kind ≤ 3
    · have hin : inB kind 0 3 = true := by simp [inB]; omega
      have h3 : (12 : Int) < s.size := by omega
      go_enter Tryd.func33, Tryd.ntmps33
      go_wp2_with (go_at_call 37; refine (l1In_any _ _ _ _).mono ?_; rintro e w' ⟨rfl, rfl⟩)
      go_ret
      exact ⟨rfl, rfl⟩
    · have hin : inB kind 0 3 = false := by simp [inB]; omega
      go_enter Tryd.func33, Tryd.ntmps33
      go_wp2_with (go_at_call 37; refine (l1In_any _ _ _ _).mono ?_; rintro e w' ⟨rfl, rfl⟩)
      go_ret
      exact ⟨rfl, rfl⟩

end Go.Proofs.YtpepkpikeggceaaDoor
