/- strings.Cut at a space, by contract. Conditions: none. -/
import Derived.Test.YtpepkpikeggceaaDoorCutI
import Derived.Test.YtpepkpikeggceaaDoorBytes
import Derived.Test.YtpepkpikeggceaaDoorMem
import Derived.Test.YtpepkpikeggceaaDoorSl
import Derived.Test.YtpepkpikeggceaaDoorShelfC
import Derived.Lib.IndexLaws
namespace Go.Proofs.YtpepkpikeggceaaDoor
open Go.RowKit
set_option linter.unusedVariables false

theorem index_sp (s : ByteArray) (w : World) :
    Calls Tryd.prog 59 #[.string s, .string ⟨#[32]⟩] w fun e w' => e = .returned (.int .i64 (Lib.indexByte s.data.toList 32)) ∧ w' = w := Any.stringslite_Index_one Tryd.lays219 s 32 w

set_option maxHeartbeats 400000 in
theorem cutsp_no (s : ByteArray) (w : World) (h : (32 : UInt8) ∉ s.data.toList) :
    Calls Tryd.prog 17 #[.string s, .string ⟨#[32]⟩] w fun e w' => e = .returned (.tuple #[.string s, .string ByteArray.empty, .bool false]) ∧ Below w.heap.size w w' := by
  have HX := Lib.hid fun W => index_sp s W
  rw [ixb_no h] at HX
  have HC : Hid (∀ W, Calls Tryd.prog 39 #[.string s, .string ⟨#[32]⟩] W fun e w' => e = .returned (.tuple #[.string s, .string ByteArray.empty, .bool false]) ∧ Below W.heap.size W w') := Lib.hid fun W => by
    clear h
    go_enter Tryd.func39, Tryd.ntmps39
    go_wp2_with (go_at_call 59; (with_reducible refine (HX.out _).mono ?_); rintro e w1 ⟨rfl, rfl⟩)
    go_ret3
    exact ⟨rfl, Below.refl _ _⟩
  clear h HX
  go_enter Tryd.func17, Tryd.ntmps17
  go_wp2_with (go_at_call 39; (with_reducible refine (HC.out _).mono ?_); rintro e w1 ⟨rfl, hb1⟩)
  go_ret3
  exact ⟨rfl, hb1⟩

set_option maxHeartbeats 400000 in
theorem cutsp_yes (s : ByteArray) (a b : List UInt8) (w : World) (hs : s.data.toList = a ++ 32 :: b) (h : (32 : UInt8) ∉ a) (hmax : s.size ≤ 1048576) :
    Calls Tryd.prog 17 #[.string s, .string ⟨#[32]⟩] w fun e w' => e = .returned (.tuple #[.string (str a), .string (str b), .bool true]) ∧ Below w.heap.size w w' := by
  have HX := Lib.hid fun W => index_sp s W
  rw [hs, ixb_at h] at HX
  have hsz : s.size = a.length + 1 + b.length := by have := data_len s; rw [hs, List.length_append, List.length_cons] at this; omega
  have e1 : s.extract 0 a.length = str a := str_of _ (by rw [data_slice, hs]; simp)
  have e2 : s.extract (a.length + 1) s.size = str b := str_of _ (by
    rw [data_slice, hs, hsz]
    have : (a ++ 32 :: b).drop (a.length + 1) = b := by
      rw [show a ++ 32 :: b = (a ++ [32]) ++ b by simp, List.drop_left' (by simp)]
    rw [this, List.take_of_length_le (by omega)])
  obtain ⟨o, ho⟩ : ∃ o, o = a.length := ⟨_, rfl⟩
  rw [← ho] at HX hsz e1 e2
  have HC : Hid (∀ W, Calls Tryd.prog 39 #[.string s, .string ⟨#[32]⟩] W fun e w' => e = .returned (.tuple #[.string (str a), .string (str b), .bool true]) ∧ Below W.heap.size W w') := Lib.hid fun W => by
    have ho1 : o + 1 ≤ s.size := by omega
    have HSZ := Lib.hid hsz
    have hw : IntKind.i64.wrap ((o : Int) + 1) = (o : Int) + 1 := by rw [IntKind.wrap_i64]; omega
    clear h hs hsz ho
    go_enter Tryd.func39, Tryd.ntmps39
    go_wp2_with (go_at_call 59; (with_reducible refine (HX.out _).mono ?_); rintro e w1 ⟨rfl, rfl⟩)
    go_quiet (fail)
    go_wp2
    go_ret3
    exact ⟨by rw [← e1, ← e2]; rfl, bdrew (Below.refl _ _) _⟩
  clear h HX hs hsz ho e1 e2
  go_enter Tryd.func17, Tryd.ntmps17
  go_wp2_with (go_at_call 39; (with_reducible refine (HC.out _).mono ?_); rintro e w1 ⟨rfl, hb1⟩)
  go_ret3
  exact ⟨rfl, hb1⟩
end Go.Proofs.YtpepkpikeggceaaDoor
