/- FnExactMisereWins returns true: the walk. Conditions: none. -/
import Derived.Test.YtdckgplmkigjcaaMisL
namespace Go.Proofs.Ytdckgplmkigjcaa
open Go.RowKit
set_option linter.unusedVariables false

/-- Whether the player to move wins. -/
noncomputable def mvW (cs p : List Int) : Bool := smallB cs p 20 && decide (mvV cs p ≠ 0)
set_option maxHeartbeats 400000 in
theorem winsI_any (A A' : Option Addr) (c c' : Nat) (cs p : List Int) (w : World) (B : Nat) (hB : B ≤ w.heap.size) (h : RdI w B A c cs) (h' : RdI w B A' c' p) :
    Calls Try.prog 33 #[.slice A cs.length c, .slice A' p.length c'] w fun e w' => e = .returned (.tuple #[.bool (mvW cs p), .bool (smallB cs p 20)]) ∧ Below w.heap.size w w' := by
  have HS := Lib.hid (misereI_any A A' c c' cs p w B hB h h')
  have HW : Hid (mvW cs p = (smallB cs p 20 && decide (mvV cs p ≠ 0))) := rfl
  generalize mvW cs p = W at *
  generalize smallB cs p 20 = ok at *
  generalize mvV cs p = v at *
  by_cases hv : v = 0
  · subst hv
    cases ok
    all_goals
      go_enter Try.func33, Try.ntmps33
      go_wp2_with (go_at_call 31; (with_reducible refine (HS.out).mono ?_); rintro e w1 ⟨rfl, hb1⟩)
      go_ret2
      exact ⟨by rw [HW.out]; rfl, hb1⟩
  · have ht : ((v : Int) != 0) = true := by simp; omega
    have HD : Hid (decide (v ≠ 0) = true) := Lib.hid (decide_eq_true hv)
    cases ok
    all_goals
      go_enter Try.func33, Try.ntmps33
      go_wp2_with (go_at_call 31; (with_reducible refine (HS.out).mono ?_); rintro e w1 ⟨rfl, hb1⟩)
      go_ret2
      exact ⟨by rw [HW.out, HD.out]; rfl, hb1⟩
set_option maxHeartbeats 400000 in
theorem winsS_any (A A' : Option Addr) (c c' : Nat) (cs p : List Int) (w : World) (B : Nat) (hB : B ≤ w.heap.size) (h : RdI w B A c cs) (h' : RdI w B A' c' p) :
    Calls Try.prog 32 #[.slice A cs.length c, .slice A' p.length c'] w fun e w' => e = .returned (.tuple #[.bool (mvW cs p), .bool (smallB cs p 20)]) ∧ Below w.heap.size w w' := by
  have HS := Lib.hid (misereS_any A A' c c' cs p w B hB h h')
  have HW : Hid (mvW cs p = (smallB cs p 20 && decide (mvV cs p ≠ 0))) := rfl
  generalize mvW cs p = W at *
  generalize smallB cs p 20 = ok at *
  generalize mvV cs p = v at *
  by_cases hv : v = 0
  · subst hv
    cases ok
    all_goals
      go_enter Try.func32, Try.ntmps32
      go_wp2_with (go_at_call 30; (with_reducible refine (HS.out).mono ?_); rintro e w1 ⟨rfl, hb1⟩)
      go_ret2
      exact ⟨by rw [HW.out]; rfl, hb1⟩
  · have ht : ((v : Int) != 0) = true := by simp; omega
    have HD : Hid (decide (v ≠ 0) = true) := Lib.hid (decide_eq_true hv)
    cases ok
    all_goals
      go_enter Try.func32, Try.ntmps32
      go_wp2_with (go_at_call 30; (with_reducible refine (HS.out).mono ?_); rintro e w1 ⟨rfl, hb1⟩)
      go_ret2
      exact ⟨by rw [HW.out, HD.out]; rfl, hb1⟩

set_option maxHeartbeats 800000 in
theorem lawWins (a : Option Addr) (len cap : Nat) (zs : List Int) (a' : Option Addr) (len' cap' : Nat) (zs' : List Int) (w : World) (h : IsRow .i64 w a len cap zs) (h' : IsRow .i64 w a' len' cap' zs') :
    Calls Try.prog 8 #[.slice a len cap, .slice a' len' cap'] w fun e w' => e = .returned (.bool true) ∧ Below w.heap.size w w' := by
  obtain ⟨hr, hl⟩ := h.rd
  obtain ⟨hr', hl'⟩ := h'.rd
  clear h h'
  generalize zs.take len = xs at hr hl
  generalize zs'.take len' = ys at hr' hl'
  subst hl hl'
  have h1 := hr.len
  have h2 := hr.max
  have h3 := hr'.len
  have h4 := hr'.max
  by_cases hbig : 1048576 < xs.length
  · go_enter Try.func8, Try.ntmps8
    go_wp2
    go_ret
    exact ⟨rfl, Below.refl _ _⟩
  by_cases hbig' : 1048576 < ys.length
  · go_enter Try.func8, Try.ntmps8
    go_wp2
    go_ret
    exact ⟨rfl, Below.refl _ _⟩
  have hsm : xs.length ≤ 1048576 := by omega
  have hsm' : ys.length ≤ 1048576 := by omega
  have g0 := Below.refl w.heap.size w
  obtain ⟨v, hv⟩ : ∃ v, v = mvW xs ys := ⟨_, rfl⟩
  obtain ⟨ok, hok⟩ : ∃ ok, ok = smallB xs ys 20 := ⟨_, rfl⟩
  have HS := Lib.hid fun A A' c c' W => winsS_any A A' c c' xs ys W W.heap.size (Nat.le_refl _)
  have HI := Lib.hid fun A A' c c' W => winsI_any A A' c c' xs ys W W.heap.size (Nat.le_refl _)
  rw [← hv, ← hok] at HS HI
  clear hv hok
  have hne : (v != v) = false := by cases v <;> rfl
  have hbe : (ok != ok) = false := by cases ok <;> rfl
  go_enter Try.func8, Try.ntmps8
  go_wp2_with fail
  ((with_reducible refine (toIntS_any _ _ xs _ _ g0.size (hr.below g0 (Nat.le_refl _)) hsm).mono ?_); rintro e w1 ⟨A1, c1, rfl, ho1, hb1⟩)
  have g1 := gtr g0 hb1
  go_wp2_with fail
  ((with_reducible refine (toIntS_any _ _ ys _ _ g1.size (hr'.below g1 (Nat.le_refl _)) hsm').mono ?_); rintro e w2 ⟨A2, c2, rfl, ho2, hb2⟩)
  have g2 := gtr g1 hb2
  go_wp2_with fail
  ((with_reducible refine (HS.out A1 A2 c1 c2 _ ((ho1.below hb2).rd rfl) (ho2.rd rfl)).mono ?_); rintro e w3 ⟨rfl, hb3⟩)
  have g3 := gtr g2 hb3
  go_wp2_with fail
  ((with_reducible refine (toIntS_any _ _ xs _ _ g3.size (hr.below g3 (Nat.le_refl _)) hsm).mono ?_); rintro e w4 ⟨A4, c4, rfl, ho4, hb4⟩)
  have g4 := gtr g3 hb4
  go_wp2_with fail
  ((with_reducible refine (toIntS_any _ _ ys _ _ g4.size (hr'.below g4 (Nat.le_refl _)) hsm').mono ?_); rintro e w5 ⟨A5, c5, rfl, ho5, hb5⟩)
  have g5 := gtr g4 hb5
  have hx5 := ho4.below hb5
  clear ho1 ho2 ho4
  go_wp2_with fail
  ((with_reducible refine (HI.out A4 A5 c4 c5 _ (hx5.rd rfl) (ho5.rd rfl)).mono ?_); rintro e w6 ⟨rfl, hb6⟩)
  have g6 := gtr g5 hb6
  have hx6 := hx5.below hb6
  have hy6 := ho5.below hb6
  clear hx5 ho5
  go_wp2_with fail
  ((with_reducible refine (toIntS_any _ _ xs _ _ g6.size (hr.below g6 (Nat.le_refl _)) hsm).mono ?_); rintro e w7 ⟨A7, c7, rfl, ho7, hb7⟩)
  have g7 := gtr g6 hb7
  have hx7 := hx6.below hb7
  have hy7 := hy6.below hb7
  go_wp2_with fail
  ((with_reducible refine (eqIntS_any _ _ _ _ xs xs _ _ (Nat.le_refl _) (hx7.rd rfl) (ho7.rd rfl)).mono ?_); rintro e w8 ⟨rfl, hb8⟩)
  have g8 := gtr g7 hb8
  have hy8 := hy7.below hb8
  go_wp2_with fail
  ((with_reducible refine (toIntS_any _ _ ys _ _ g8.size (hr'.below g8 (Nat.le_refl _)) hsm').mono ?_); rintro e w9 ⟨A9, c9, rfl, ho9, hb9⟩)
  have g9 := gtr g8 hb9
  have hy9 := hy8.below hb9
  go_wp2_with fail
  ((with_reducible refine (eqIntS_any _ _ _ _ ys ys _ _ (Nat.le_refl _) (hy9.rd rfl) (ho9.rd rfl)).mono ?_); rintro e w10 ⟨rfl, hb10⟩)
  go_wp2
  go_ret
  exact ⟨rfl, gtr g9 hb10⟩
end Go.Proofs.Ytdckgplmkigjcaa
