/- The law that both GenusText agree, walked. Conditions: none. -/
import Derived.Test.YtmdnbmdkommmkaaDoorGenus
import Derived.Test.YtmdnbmdkommmkaaDoorRows
import Derived.LaidSub
import Derived.Lib.LaidTab
import Derived.LaidMore
import Derived.SevenTiedAt
namespace Go.Proofs.YtmdnbmdkommmkaaDoor
open Go.RowKit
set_option linter.unusedVariables false

set_option maxHeartbeats 800000 in
theorem genusS_all (A : Option Addr) (c : Nat) (xs : List Int) (w : World) (B : Nat) (h : RdI w B A c xs) :
    Calls Tryd.prog 12 #[.slice A xs.length c] w fun e w' => e = .returned (.tuple #[.string (genV xs).1, .bool (genV xs).2]) ∧ Below w.heap.size w w' := by
  by_cases hg : xs.length = 5 ∧ nimsB xs = true
  · have e : genV xs = (gT xs, true) := if_pos hg
    rw [e]
    exact genusS_good A c xs w B h hg.1 hg.2
  · have e : genV xs = (ByteArray.empty, false) := if_neg hg
    rw [e]
    clear e
    by_cases h5 : xs.length = 5
    · have hn : nimsB xs = false := by
        cases hn : nimsB xs
        · rfl
        · exact absurd ⟨h5, hn⟩ hg
      have hN := nimsZ_any A c xs w B h
      rw [hn] at hN
      rw [h5] at hN ⊢
      have HN := Lib.hid hN
      clear hN hn h5 hg
      go_enter Tryd.func12, Tryd.ntmps12
      go_wp2_with fail
      ((with_reducible refine HN.out.mono ?_); rintro e w1 ⟨rfl, rfl⟩)
      go_wp2
      go_ret2
      exact ⟨rfl, Below.refl _ _⟩
    · have h5I : ¬ (xs.length : Int) = 5 := by omega
      clear hg
      go_enter Tryd.func12, Tryd.ntmps12
      go_wp2
      go_ret2
      exact ⟨rfl, Below.refl _ _⟩

set_option maxHeartbeats 800000 in
theorem genusI_all (A : Option Addr) (c : Nat) (xs : List Int) (w : World) (B : Nat) (hB : B ≤ w.heap.size) (h : RdI w B A c xs) (ht : TabI w) :
    Calls Tryd.prog 14 #[.slice A xs.length c] w fun e w' => e = .returned (.tuple #[.string (genV xs).1, .bool (genV xs).2]) ∧ Below w.heap.size w w' := by
  by_cases h5 : xs.length = 5
  · have e : genI xs = .tuple #[.string (genV xs).1, .bool (genV xs).2] := by
      unfold genI genV
      by_cases hn : nimsB xs = true
      · rw [if_pos hn, if_pos ⟨h5, hn⟩]
      · rw [if_neg hn, if_neg fun hh => hn hh.2]
    rw [← e]
    exact genusI_five A c xs w B hB h h5 ht
  · have e : genV xs = (ByteArray.empty, false) := if_neg fun hh => h5 hh.1
    rw [e]
    clear e
    have h5I : ¬ (xs.length : Int) = 5 := by omega
    go_enter Tryd.func14, Tryd.ntmps14
    go_wp2
    go_ret2
    exact ⟨rfl, Below.refl _ _⟩

/-- The table out of a row's condition. -/
theorem tab_of {w : World} {l : List (String × DataW Unit)} (h : laidMet Tryd.prog l w) (hf : l.filter (fun x => x.1 == "internal/strconv.uint64pow10") = [("internal/strconv.uint64pow10", Lib.tabData .u64 Lib.pow10Tab)]) : TabI w := by
  have h2 := h.filter (fun x => x.1 == "internal/strconv.uint64pow10")
  rw [hf] at h2
  exact Lib.tabIs_of_head (g := 0) (t := 120) (e := 72) (n := 20) (by kernel_rfl) (by kernel_rfl) Tryd.underlying120 Tryd.underlying72 (by kernel_rfl) (by kernel_rfl) h2

set_option maxHeartbeats 800000 in
theorem lawGenusText (a : Option Addr) (len cap : Nat) (zs : List Int) (w : World) (hL : laidMetH Tryd.prog Rows.fnExactGenusTextRow.laid w) (h : IsRow .i64 w a len cap zs) :
    Calls Tryd.prog 4 #[.slice a len cap] w fun e w' => e = .returned (.bool true) ∧ Below w.heap.size w w' := by
  have ht : TabI w := by
    rw [MakeChecks.laidMetH_plain _ _ _ (by kernel_rfl)] at hL
    exact tab_of hL (by rfl)
  clear hL
  obtain ⟨hr, hl⟩ := h.rd
  clear h
  generalize zs.take len = xs at hr hl
  subst hl
  have h1 := hr.len
  have h2 := hr.max
  by_cases hbig : 1048576 < xs.length
  · go_enter Tryd.func4, Tryd.ntmps4
    go_wp2
    go_ret
    exact ⟨rfl, Below.refl _ _⟩
  · have hsm : xs.length ≤ 1048576 := by omega
    obtain ⟨s, b, hsb⟩ : ∃ s b, genV xs = (s, b) := ⟨_, _, rfl⟩
    have HS : Hid (∀ A c W B, RdI W B A c xs → Calls Tryd.prog 12 #[.slice A xs.length c] W fun e w' => e = .returned (.tuple #[.string s, .bool b]) ∧ Below W.heap.size W w') := fun A c W B hh => by
      have := genusS_all A c xs W B hh; rwa [hsb] at this
    have HI : Hid (∀ A c W B, B ≤ W.heap.size → RdI W B A c xs → TabI W → Calls Tryd.prog 14 #[.slice A xs.length c] W fun e w' => e = .returned (.tuple #[.string s, .bool b]) ∧ Below W.heap.size W w') := fun A c W B hB hh ht => by
      have := genusI_all A c xs W B hB hh ht; rwa [hsb] at this
    clear hsb
    go_enter Tryd.func4, Tryd.ntmps4
    go_wp2_with fail
    ((with_reducible refine (toIntS_any _ _ _ _ _ (Nat.le_refl _) hr hsm).mono ?_); rintro e w1 ⟨A1, c1, rfl, ho1, hb1⟩)
    have hz1 := hb1.size
    go_wp2_with fail
    ((with_reducible refine (HS.out _ _ _ _ (ho1.rd rfl)).mono ?_); rintro e w2 ⟨rfl, hb2⟩)
    have hz2 := hb2.size
    have g2 := gtr hb1 hb2
    go_wp2_with fail
    ((with_reducible refine (toIntS_any _ _ _ _ _ g2.size (hr.below g2 (Nat.le_refl _)) hsm).mono ?_); rintro e w3 ⟨A3, c3, rfl, ho3, hb3⟩)
    have g3 := gtr g2 hb3
    have ht3 := ht.below g3
    go_wp2_with fail
    ((with_reducible refine (HI.out _ _ _ _ (Nat.le_refl _) (ho3.rd rfl) ht3).mono ?_); rintro e w4 ⟨rfl, hb4⟩)
    have g4 := gtr g3 hb4
    have ho4 := ho3.below hb4
    cases b
    all_goals
      go_wp2_with fail
      ((with_reducible refine (toIntS_any _ _ _ _ _ g4.size (hr.below g4 (Nat.le_refl _)) hsm).mono ?_); rintro e w5 ⟨A5, c5, rfl, ho5, hb5⟩)
      have ho6 := ho4.below hb5
      have g5 := gtr g4 hb5
      go_wp2_with fail
      refine (eqIntS_any _ _ _ _ _ _ _ _ (Nat.le_refl _) (ho6.rd rfl) (ho5.rd rfl)).mono ?_; rintro e w6 ⟨rfl, hb6⟩
      have g6 := gtr g5 hb6
      go_wp2
      go_ret
      exact ⟨rfl, g6⟩
end Go.Proofs.YtmdnbmdkommmkaaDoor
