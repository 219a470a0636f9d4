/- strings.Cut at a plus sign, by contract. Conditions: none. -/
import Derived.Test.YtpepkpikeggceaaDoorBytes
import Derived.Test.YtpepkpikeggceaaDoorMem
import Derived.Test.YtpepkpikeggceaaDoorSl
import Derived.Test.YtpepkpikeggceaaDoorShelfC
import Derived.Lib.IndexLaws
namespace Go.Proofs.YtpepkpikeggceaaDoor
open Go.RowKit
set_option linter.unusedVariables false

theorem ixb_no {l : List UInt8} {c : UInt8} (h : c ∉ l) : Lib.indexByte l c = -1 := by
  have hg := Lib.indexByte_ge l c
  by_cases h1 : Lib.indexByte l c = -1
  · exact h1
  · obtain ⟨o, ho⟩ := Int.eq_ofNat_of_zero_le (show 0 ≤ Lib.indexByte l c by omega)
    exact absurd (List.mem_of_getElem? (Lib.indexByte_some ho).1) h
theorem ixb_at {a b : List UInt8} {c : UInt8} (h : c ∉ a) : Lib.indexByte (a ++ c :: b) c = a.length := by
  have hg := Lib.indexByte_ge (a ++ c :: b) c
  have hat : (a ++ c :: b)[a.length]? = some c := by simp
  by_cases h1 : Lib.indexByte (a ++ c :: b) c = -1
  · exact absurd hat (Lib.indexByte_none h1 a.length)
  · obtain ⟨o, ho⟩ := Int.eq_ofNat_of_zero_le (show 0 ≤ Lib.indexByte (a ++ c :: b) c by omega)
    obtain ⟨k1, k2⟩ := Lib.indexByte_some ho
    rw [ho]
    rcases Nat.lt_trichotomy o a.length with e | e | e
    · rw [List.getElem?_append_left e] at k1
      exact absurd (List.mem_of_getElem? k1) h
    · rw [e]
    · exact absurd hat (k2 _ e)
theorem index_any (s : ByteArray) (w : World) :
    Calls Tryd.prog 59 #[.string s, .string ⟨#[43]⟩] w fun e w' => e = .returned (.int .i64 (Lib.indexByte s.data.toList 43)) ∧ w' = w := Any.stringslite_Index_one Tryd.lays219 s 43 w

set_option maxHeartbeats 400000 in
theorem cut_no (s : ByteArray) (w : World) (h : (43 : UInt8) ∉ s.data.toList) :
    Calls Tryd.prog 17 #[.string s, .string ⟨#[43]⟩] w fun e w' => e = .returned (.tuple #[.string s, .string ByteArray.empty, .bool false]) ∧ Below w.heap.size w w' := by
  have HX := Lib.hid fun W => index_any s W
  rw [ixb_no h] at HX
  have HC : Hid (∀ W, Calls Tryd.prog 39 #[.string s, .string ⟨#[43]⟩] W fun e w' => e = .returned (.tuple #[.string s, .string ByteArray.empty, .bool false]) ∧ Below W.heap.size W w') := Lib.hid fun W => by
    clear h
    go_enter Tryd.func39, Tryd.ntmps39
    go_wp2_with (go_at_call 59; (with_reducible refine (HX.out _).mono ?_); rintro e w1 ⟨rfl, rfl⟩)
    go_ret3
    exact ⟨rfl, Below.refl _ _⟩
  clear h HX
  go_enter Tryd.func17, Tryd.ntmps17
  go_wp2_with (go_at_call 39; (with_reducible refine (HC.out _).mono ?_); rintro e w1 ⟨rfl, hb1⟩)
  go_ret3
  exact ⟨rfl, hb1⟩

set_option maxHeartbeats 400000 in
theorem cut_yes (s : ByteArray) (a b : List UInt8) (w : World) (hs : s.data.toList = a ++ 43 :: b) (h : (43 : UInt8) ∉ a) (hmax : s.size ≤ 1048576) :
    Calls Tryd.prog 17 #[.string s, .string ⟨#[43]⟩] w fun e w' => e = .returned (.tuple #[.string (str a), .string (str b), .bool true]) ∧ Below w.heap.size w w' := by
  have HX := Lib.hid fun W => index_any s W
  rw [hs, ixb_at h] at HX
  have hsz : s.size = a.length + 1 + b.length := by have := data_len s; rw [hs, List.length_append, List.length_cons] at this; omega
  have e1 : s.extract 0 a.length = str a := str_of _ (by rw [data_slice, hs]; simp)
  have e2 : s.extract (a.length + 1) s.size = str b := str_of _ (by
    rw [data_slice, hs, hsz]
    have : (a ++ 43 :: b).drop (a.length + 1) = b := by
      rw [show a ++ 43 :: b = (a ++ [43]) ++ b by simp, List.drop_left' (by simp)]
    rw [this, List.take_of_length_le (by omega)])
  obtain ⟨o, ho⟩ : ∃ o, o = a.length := ⟨_, rfl⟩
  rw [← ho] at HX hsz e1 e2
  have HC : Hid (∀ W, Calls Tryd.prog 39 #[.string s, .string ⟨#[43]⟩] W fun e w' => e = .returned (.tuple #[.string (str a), .string (str b), .bool true]) ∧ Below W.heap.size W w') := Lib.hid fun W => by
    have ho1 : o + 1 ≤ s.size := by omega
    have HSZ := Lib.hid hsz
    have hw : IntKind.i64.wrap ((o : Int) + 1) = (o : Int) + 1 := by rw [IntKind.wrap_i64]; omega
    clear h hs hsz ho
    go_enter Tryd.func39, Tryd.ntmps39
    go_wp2_with (go_at_call 59; (with_reducible refine (HX.out _).mono ?_); rintro e w1 ⟨rfl, rfl⟩)
    go_quiet (fail)
    go_wp2
    go_ret3
    exact ⟨by rw [← e1, ← e2]; rfl, bdrew (Below.refl _ _) _⟩
  clear h HX hs hsz ho e1 e2
  go_enter Tryd.func17, Tryd.ntmps17
  go_wp2_with (go_at_call 39; (with_reducible refine (HC.out _).mono ?_); rintro e w1 ⟨rfl, hb1⟩)
  go_ret3
  exact ⟨rfl, hb1⟩
end Go.Proofs.YtpepkpikeggceaaDoor
