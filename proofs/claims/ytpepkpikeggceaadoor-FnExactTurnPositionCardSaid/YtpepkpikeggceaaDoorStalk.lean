/- Texts of marks: the reference's and the program's tests, by contracts. Conditions: none. -/
import Derived.Test.YtpepkpikeggceaaDoorStr
import Derived.Test.YtpepkpikeggceaaDoorIn
import Derived.Test.YtpepkpikeggceaaDoorShelf
namespace Go.Proofs.YtpepkpikeggceaaDoor
open Go.RowKit
set_option linter.unusedVariables false

def signsB (s : ByteArray) (m : Int) : Bool := allIn [76, 82] s && decide ((s.size : Int) ≤ m)

set_option maxHeartbeats 400000 in
theorem signsS_any (s : ByteArray) (m : Int) (w : World) (hs : s.size ≤ maxLen) :
    Calls Tryd.prog 35 #[.string s, .int .i64 m] w fun e w' => e = .returned (.bool (signsB s m)) ∧ w = w' := by
  unfold maxLen at hs
  go_enter Tryd.func35, Tryd.ntmps35
  go_wp2
  go_loop [5] (fun i => ∃ k : Nat, i = .int .i64 k ∧ k ≤ s.size ∧ ∀ j (h : j < s.size), j < k → ([76, 82] : List UInt8).contains s[j] = true) (fun i => s.size - (intOf i).toNat)
  case atStart => exact ⟨0, rfl, by omega, fun j _ hj => absurd hj (by omega)⟩
  case round =>
    obtain ⟨k, rfl, hk, hr⟩ := hrel
    have HR := Lib.hid hr; clear hr
    by_cases hlt : k < s.size
    · by_cases h1 : s[k] = 76
      · have t1 := bne_f 76 rfl h1
        have HE := Lib.hid h1; clear h1
        go_wp2
        go_round
        case rel => exact ⟨k + 1, by go_num, by omega, fun j h hj => if hjk : j = k then by subst hjk; rw [HE.out]; rfl else HR.out j h (by omega)⟩
        case measure => simp [intOf]; omega
      · by_cases h2 : s[k] = 82
        · have t1 := bne_t 76 rfl h1
          have t2 := bne_f 82 rfl h2
          have HE := Lib.hid h2; clear h1 h2
          go_wp2
          go_round
          case rel => exact ⟨k + 1, by go_num, by omega, fun j h hj => if hjk : j = k then by subst hjk; rw [HE.out]; rfl else HR.out j h (by omega)⟩
          case measure => simp [intOf]; omega
        · have t1 := bne_t 76 rfl h1
          have t2 := bne_t 82 rfl h2
          have HE : Hid (signsB s m = false) := by
            show signsB s m = false
            rw [signsB, allIn_false k hlt (by simp [h1, h2])]; rfl
          clear h1 h2
          go_wp2
          go_ret
          exact ⟨ret_bool HE.out.symm, rfl⟩
    · have HE : Hid (allIn [76, 82] s = true) := allIn_true.2 fun j h => HR.out j h (by omega)
      go_wp2
      go_ret
      refine ⟨ret_bool ?_, rfl⟩
      rw [signsB, HE.out, Bool.true_and]

theorem trimmed_any (cs : List UInt8) (hl : cs.length < 4294967281) (ha : cs.all (fun b => decide (b.toNat < 128)) = true) (s : ByteArray) (w : World) (hs : s.size ≤ maxLen) :
    Calls Tryd.prog 62 #[.string s, .string ⟨cs.toArray⟩] w fun e w' => e = .returned (.string ⟨(Lib.trimS s.data.toList cs).toArray⟩) ∧ Below w.heap.size w w' := by
  unfold maxLen at hs
  exact Any.strings_Trim_laid Tryd.lays160 (by kernel_rfl) s ⟨cs.toArray⟩ w hs (by simpa [ByteArray.size] using hl) (ascii_of_all ha)

set_option maxHeartbeats 400000 in
theorem areMarks_any (s : ByteArray) (w : World) (hs : s.size ≤ maxLen) :
    Calls Tryd.prog 42 #[.string s] w fun e w' => e = .returned (.bool (allIn [76, 82] s)) ∧ Below w.heap.size w w' := by
  have hT := trimmed_any [76, 82] (by decide) (by decide) s w hs
  go_enter Tryd.func42, Tryd.ntmps42
  go_wp2_with (go_at_call 62; refine hT.mono ?_; rintro e w' ⟨rfl, hb⟩)
  go_ret
  exact ⟨ret_bool (by first | exact trim_isEmpty _ _ | exact trim_empty _ _), hb⟩

end Go.Proofs.YtpepkpikeggceaaDoor
