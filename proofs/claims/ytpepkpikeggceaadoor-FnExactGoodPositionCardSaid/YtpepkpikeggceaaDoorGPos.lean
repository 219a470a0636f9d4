/- GoodPosition of the program is the reference's: the walk of the law. Conditions: none. -/
import Derived.Test.YtpepkpikeggceaaDoorCmpI
namespace Go.Proofs.YtpepkpikeggceaaDoor
open Go.RowKit
set_option linter.unusedVariables false

theorem goodPosS_any (s : ByteArray) (w : World) (hs : s.size ≤ 1048576) :
    Calls Tryd.prog 5 #[.string s] w fun e w' => e = .returned (.bool (posB s)) ∧ Below w.heap.size w w' := by
  have HS := Lib.hid (singlesS_any s w hs)
  go_enter Tryd.func5, Tryd.ntmps5
  go_wp2_with (go_at_call 9; (with_reducible refine HS.out.mono ?_); rintro e w1 ⟨A, c, rfl, ho, hb1⟩)
  go_ret
  exact ⟨rfl, hb1⟩
theorem goodPosI_any (s : ByteArray) (m : Int) (w : World) (hs : s.size ≤ 1048576) (hm : w.cell? ⟨Tryd.lays146_ren.g 1, 0, none⟩ = some (.int .i64 m)) :
    Calls Tryd.prog 6 #[.string s] w fun e w' => e = .returned (.bool (posB s)) ∧ Below w.heap.size w w' := by
  have HS := Lib.hid (comps_any s m w hs hm)
  clear hm
  go_enter Tryd.func6, Tryd.ntmps6
  go_wp2_with (go_at_call 10; (with_reducible refine HS.out.mono ?_); rintro e w1 ⟨A, c, rfl, ho, hb1⟩)
  go_ret
  exact ⟨rfl, hb1⟩

set_option maxHeartbeats 800000 in
theorem lawGoodPosition (s : ByteArray) (w : World) (m : Int) (hm : w.cell? ⟨Tryd.lays146_ren.g 1, 0, none⟩ = some (.int .i64 m)) (hs : s.size ≤ maxLen) :
    Calls Tryd.prog 3 #[.string s] w fun e w' => e = .returned (.bool true) ∧ Below w.heap.size w w' := by
  have hg := World.block_lt_of_cell? _ _ hm
  by_cases hbig : 1048576 < s.size
  · have hbI : (1048576 : Int) < (s.size : Int) := by omega
    clear hm hg
    go_enter Tryd.func3, Tryd.ntmps3
    go_wp2
    go_ret
    exact ⟨rfl, Below.refl _ _⟩
  · have hbI : ¬ (1048576 : Int) < (s.size : Int) := by omega
    have HS := Lib.hid fun W => goodPosS_any s W (by omega)
    have HI := Lib.hid fun W => goodPosI_any s m W (by omega)
    have HM := Lib.hid fun (W : World) (hb : Below w.heap.size w W) => (Below.cell hb (p := ⟨Tryd.lays146_ren.g 1, 0, none⟩) hg).trans hm
    clear hm hg
    obtain ⟨b, hb⟩ : ∃ b, b = posB s := ⟨_, rfl⟩
    rw [← hb] at HS HI
    clear hb
    go_enter Tryd.func3, Tryd.ntmps3
    go_wp2_with (first | (go_at_call 5; (with_reducible refine (HS.out _).mono ?_); rintro e w1 ⟨rfl, hb1⟩) | (go_at_call 6; (with_reducible refine (HI.out _ (HM.out _ hb1)).mono ?_); rintro e w2 ⟨rfl, hb2⟩))
    cases b
    all_goals
      go_wp2
      go_ret
      exact ⟨rfl, gtr hb1 hb2⟩
end Go.Proofs.YtpepkpikeggceaaDoor
