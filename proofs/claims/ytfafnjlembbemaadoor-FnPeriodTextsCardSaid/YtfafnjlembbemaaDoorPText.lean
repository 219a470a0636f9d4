/- PeriodText, by the reference and by the program: contracts; the law. Conditions: none. -/
import Derived.Test.YtfafnjlembbemaaDoorItoa
import Derived.Test.YtfafnjlembbemaaDoorGoodPer
import Derived.Test.YtfafnjlembbemaaDoorSl
import Derived.Test.YtfafnjlembbemaaDoorRows
import Derived.Deep.RegionHeld3
import Derived.LaidSub
import Derived.Lib.LaidTab
import Derived.LaidMore
import Derived.SevenTiedAt
namespace Go.Proofs.YtfafnjlembbemaaDoor
open Go.RowKit
set_option linter.unusedVariables false

/-- The text of a period. -/
def pText (p l : Nat) : ByteArray := str (Lib.decDigits p ++ [43] ++ Lib.decDigits l)
theorem pText_adds (p l : Nat) (hp : p ≤ 1000) (hl : l ≤ 1000) : ∃ v1 : ByteArray, (∀ W, (Op.stringOp .add (str (Lib.decDigits p)) ⟨#[43]⟩).run Tryd.prog W = .ok (.string v1) W) ∧ (∀ W, (Op.stringOp .add v1 (str (Lib.decDigits l))).run Tryd.prog W = .ok (.string (pText p l)) W) := by
  have h1 := decDigits_len p (by omega)
  have h2 := decDigits_len l (by omega)
  refine ⟨str (Lib.decDigits p ++ [43]), fun W => ?_, fun W => ?_⟩
  · have h := run_string_add_sum (P := Tryd.prog) (w := W) (str (Lib.decDigits p)) ⟨#[43]⟩ (by rw [str_size]; simp [ByteArray.size]; omega)
    rw [h]
    have : str (Lib.decDigits p) ++ (⟨#[43]⟩ : ByteArray) = str (Lib.decDigits p ++ [43]) := str_of _ (by rw [data_append]; rfl)
    rw [this]
  · have h := run_string_add_sum (P := Tryd.prog) (w := W) (str (Lib.decDigits p ++ [43])) (str (Lib.decDigits l)) (by rw [str_size, str_size]; simp; omega)
    rw [h]
    have : str (Lib.decDigits p ++ [43]) ++ str (Lib.decDigits l) = pText p l := str_of _ (by rw [data_append]; rfl)
    rw [this]

set_option maxRecDepth 100000 in
set_option maxHeartbeats 800000 in
theorem pTextS_good (p l : Nat) (w : World) (hg : goodPerB p l = true) :
    Calls Tryd.prog 16 #[.agg #[.int .i64 p, .int .i64 l]] w fun e w' => e = .returned (.tuple #[.string (pText p l), .bool true]) ∧ Below w.heap.size w w' := by
  have hg' := hg
  simp [goodPerB] at hg'
  obtain ⟨v1, a1, a2⟩ := pText_adds p l (by omega) (by omega)
  have hCp := fun W => l1Num_any p W (by omega)
  have hCl := fun W => l1Num_any l W (by omega)
  generalize str (Lib.decDigits p) = sp at *
  generalize str (Lib.decDigits l) = sl at *
  generalize pText p l = pt at *
  have HCP := Lib.hid hCp; have HCL := Lib.hid hCl
  clear hg' hCp hCl
  go_enter Tryd.func16, Tryd.ntmps16
  go_wp2_with fail
  have hB := Below.alloc (Below.refl w.heap.size w) (Nat.le_refl _) (.cells #[.int .i64 p, .int .i64 l] 23)
  have b1 := Blk.new w 23 #[.int .i64 p, .int .i64 l]
  generalize w.alloc (.cells #[.int .i64 p, .int .i64 l] 23) = W at *
  have hlt := b1.lt
  ((with_reducible refine (goodPerS_any _ _ _).mono ?_); rintro e w1 ⟨rfl, hb1⟩)
  have b11 := b1.below hb1 hlt
  have h11 := hB.trans (hb1.mono (by omega))
  have c0 : w1.cell? ⟨w.heap.size, 0, none⟩ = some (.int .i64 p) := b11.cell 0
  have c1 : w1.cell? ⟨w.heap.size, 1, none⟩ = some (.int .i64 l) := b11.cell 1
  clear b1 hB b11
  go_wp2
  go_quiet (first
    | (go_at_call 36; (with_reducible exact Calls.quiet_of (HCP.out _)))
    | (go_at_call 36; (with_reducible exact Calls.quiet_of (HCL.out _))))
  go_wp2
  go_ret2
  exact ⟨rfl, bdrew h11 _⟩

set_option maxRecDepth 100000 in
set_option maxHeartbeats 800000 in
theorem pTextI_good (p l : Nat) (w : World) (hg : goodPerB p l = true) (ht : TabI w) :
    Calls Tryd.prog 15 #[.agg #[.int .i64 p, .int .i64 l]] w fun e w' => e = .returned (.tuple #[.string (pText p l), .bool true]) ∧ Below w.heap.size w w' := by
  have hg' := hg
  simp [goodPerB] at hg'
  obtain ⟨v1, a1, a2⟩ := pText_adds p l (by omega) (by omega)
  have hCp := fun W h => itoa_any p W (by omega) h
  have hCl := fun W h => itoa_any l W (by omega) h
  generalize str (Lib.decDigits p) = sp at *
  generalize str (Lib.decDigits l) = sl at *
  generalize pText p l = pt at *
  have HCP := Lib.hid hCp; have HCL := Lib.hid hCl
  clear hg' hCp hCl
  go_enter Tryd.func15, Tryd.ntmps15
  go_wp2_with fail
  have hB := Below.alloc (Below.refl w.heap.size w) (Nat.le_refl _) (.cells #[.int .i64 p, .int .i64 l] 23)
  have b1 := Blk.new w 23 #[.int .i64 p, .int .i64 l]
  generalize w.alloc (.cells #[.int .i64 p, .int .i64 l] 23) = W at *
  have hlt := b1.lt
  ((with_reducible refine (goodPerI_any _ _ _).mono ?_); rintro e w1 ⟨rfl, hb1⟩)
  have b11 := b1.below hb1 hlt
  have h11 := hB.trans (hb1.mono (by omega))
  have hz1 := hb1.size
  have ht1 := ht.below h11
  have c0 : w1.cell? ⟨w.heap.size, 0, none⟩ = some (.int .i64 p) := b11.cell 0
  have c1 : w1.cell? ⟨w.heap.size, 1, none⟩ = some (.int .i64 l) := b11.cell 1
  have HS : Hid (∀ w', Below w1.heap.size w1 w' → Blk w' w.heap.size 23 #[.int .i64 p, .int .i64 l]) := fun w' hb => b11.below hb (by omega)
  have ht1d : TabI w1.drew := ht1
  clear b1 hB b11
  go_wp2
  go_region_held3 (fun w' => w'.cell? ⟨w.heap.size, 0, none⟩ = some (.int .i64 p) ∧ w'.cell? ⟨w.heap.size, 1, none⟩ = some (.int .i64 l)) (go_keep)
      (first
        | (go_at_call 35; ((with_reducible refine (HCP.out _ ht1d).mono ?_); rintro e w2 ⟨rfl, hb2⟩); have g1 := gtr (gdrew (a := w1)) hb2; have m0 : w2.cell? ⟨w.heap.size, 0, none⟩ = some (.int .i64 p) := (HS.out _ g1).cell 0; have m1 : w2.cell? ⟨w.heap.size, 1, none⟩ = some (.int .i64 l) := (HS.out _ g1).cell 1; have ht2 := ht1.below g1)
        | (go_at_call 35; ((with_reducible refine (HCL.out _ ht2).mono ?_); rintro e w3 ⟨rfl, hb3⟩); have g2 := gtr g1 hb3; have n0 : w3.cell? ⟨w.heap.size, 0, none⟩ = some (.int .i64 p) := (HS.out _ g2).cell 0; have n1 : w3.cell? ⟨w.heap.size, 1, none⟩ = some (.int .i64 l) := (HS.out _ g2).cell 1))
  go_wp2
  go_ret2
  exact ⟨rfl, h11.trans (g2.mono (by omega))⟩

/-- What PeriodText hands back. -/
def pTextV (p l : Int) : ByteArray × Bool := if goodPerB p l then (pText p.toNat l.toNat, true) else (ByteArray.empty, false)

set_option maxHeartbeats 400000 in
theorem pTextS_all (p l : Int) (w : World) :
    Calls Tryd.prog 16 #[.agg #[.int .i64 p, .int .i64 l]] w fun e w' => e = .returned (.tuple #[.string (pTextV p l).1, .bool (pTextV p l).2]) ∧ Below w.heap.size w w' := by
  cases hg : goodPerB p l
  · have e : pTextV p l = (ByteArray.empty, false) := by unfold pTextV; rw [if_neg (by simp [hg])]
    rw [e]
    clear e
    go_enter Tryd.func16, Tryd.ntmps16
    go_wp2_with fail
    have hB := Below.alloc (Below.refl w.heap.size w) (Nat.le_refl _) (.cells #[.int .i64 p, .int .i64 l] 23)
    have hz : (w.alloc (.cells #[.int .i64 p, .int .i64 l] 23)).heap.size = w.heap.size + 1 := by simp
    generalize w.alloc (.cells #[.int .i64 p, .int .i64 l] 23) = W at *
    ((with_reducible refine (goodPerS_any _ _ _).mono ?_); rintro e w1 ⟨rfl, hb1⟩)
    have h11 := hB.trans (hb1.mono (by omega))
    go_wp2
    go_ret2
    exact ⟨rfl, h11⟩
  · have hg' := hg
    simp [goodPerB] at hg'
    obtain ⟨p, rfl⟩ := Int.eq_ofNat_of_zero_le hg'.1
    obtain ⟨l, rfl⟩ := Int.eq_ofNat_of_zero_le (show 0 ≤ l by omega)
    have e : pTextV p l = (pText p l, true) := by unfold pTextV; rw [if_pos hg, Int.toNat_natCast, Int.toNat_natCast]
    rw [e]
    exact pTextS_good p l w hg

set_option maxHeartbeats 400000 in
theorem pTextI_all (p l : Int) (w : World) (ht : TabI w) :
    Calls Tryd.prog 15 #[.agg #[.int .i64 p, .int .i64 l]] w fun e w' => e = .returned (.tuple #[.string (pTextV p l).1, .bool (pTextV p l).2]) ∧ Below w.heap.size w w' := by
  cases hg : goodPerB p l
  · have e : pTextV p l = (ByteArray.empty, false) := by unfold pTextV; rw [if_neg (by simp [hg])]
    rw [e]
    clear e ht
    go_enter Tryd.func15, Tryd.ntmps15
    go_wp2_with fail
    have hB := Below.alloc (Below.refl w.heap.size w) (Nat.le_refl _) (.cells #[.int .i64 p, .int .i64 l] 23)
    have hz : (w.alloc (.cells #[.int .i64 p, .int .i64 l] 23)).heap.size = w.heap.size + 1 := by simp
    generalize w.alloc (.cells #[.int .i64 p, .int .i64 l] 23) = W at *
    ((with_reducible refine (goodPerI_any _ _ _).mono ?_); rintro e w1 ⟨rfl, hb1⟩)
    have h11 := hB.trans (hb1.mono (by omega))
    go_wp2
    go_ret2
    exact ⟨rfl, h11⟩
  · have hg' := hg
    simp [goodPerB] at hg'
    obtain ⟨p, rfl⟩ := Int.eq_ofNat_of_zero_le hg'.1
    obtain ⟨l, rfl⟩ := Int.eq_ofNat_of_zero_le (show 0 ≤ l by omega)
    have e : pTextV p l = (pText p l, true) := by unfold pTextV; rw [if_pos hg, Int.toNat_natCast, Int.toNat_natCast]
    rw [e]
    exact pTextI_good p l w hg ht

/-- The table out of a row's condition. -/
theorem tab_of {w : World} {l : List (String × DataW Unit)} (h : laidMet Tryd.prog l w) (hf : l.filter (fun x => x.1 == "internal/strconv.uint64pow10") = [("internal/strconv.uint64pow10", Lib.tabData .u64 Lib.pow10Tab)]) : TabI w := by
  have h2 := h.filter (fun x => x.1 == "internal/strconv.uint64pow10")
  rw [hf] at h2
  exact Lib.tabIs_of_head (g := 3) (t := 182) (e := 58) (n := 20) (by kernel_rfl) (by kernel_rfl) Tryd.underlying182 Tryd.underlying58 (by kernel_rfl) (by kernel_rfl) h2

end Go.Proofs.YtfafnjlembbemaaDoor
