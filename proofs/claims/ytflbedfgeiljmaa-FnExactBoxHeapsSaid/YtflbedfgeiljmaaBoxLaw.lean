/- FnExactBoxHeaps returns true: the walk. Conditions: none. -/
import Derived.Test.YtflbedfgeiljmaaBox2
namespace Go.Proofs.Ytflbedfgeiljmaa
open Go.RowKit
set_option linter.unusedVariables false

/-- The box positions; none where the box is not good. -/
def boxL (s m : Int) : List (List Int) := if goodBoxB s m = true then allTo s.toNat (m.toNat + 1) else []
theorem FrR.none (w : World) (lo : Nat) (E e : TypeId) : FrR w lo E e (.slice none 0 0) [] := FrR.nil (World.ownsRow_nil w lo E 1)

set_option maxHeartbeats 400000 in
theorem boxI_any (s m : Int) (w : World) :
    Calls Try.prog 25 #[.agg #[.int .i64 s, .int .i64 m]] w fun e w' =>
      ∃ A c, e = .returned (.tuple #[.slice A (boxL s m).length c, .bool (goodBoxB s m)]) ∧ FrR w' w.heap.size 28 3 (.slice A (boxL s m).length c) ((boxL s m).map ints) ∧ Below w.heap.size w w' := by
  cases hg : goodBoxB s m
  · have e1 : boxL s m = [] := by simp [boxL, hg]
    rw [e1]
    clear e1
    have hc := goodBoxI_any s m
    rw [hg] at hc
    have HC := Lib.hid hc; clear hc
    go_enter Try.func25, Try.ntmps25
    go_wp2_with fail
    refine (HC.out _).mono ?_; rintro e w1 ⟨rfl, hb1⟩
    go_wp2
    refine bodyPost_ret (v := .tuple #[.slice none 0 0, .bool false]) (by simp [results, Try.results25, go_sem]) rfl ⟨none, 0, rfl, FrR.none _ _ _ _, ?_⟩
    exact ((Below.refl _ _).alloc (Nat.le_refl _) _).trans (hb1.mono (by simp))
  · have e1 : boxL s m = allTo s.toNat (m.toNat + 1) := by simp [boxL, hg]
    rw [e1]
    clear e1
    have hc := goodBoxI_any s m
    rw [hg] at hc
    have HC := Lib.hid hc; clear hc
    have hg' := hg
    simp [goodBoxB] at hg'
    obtain ⟨s, rfl⟩ := Int.eq_ofNat_of_zero_le (show 0 ≤ s by omega)
    obtain ⟨m, rfl⟩ := Int.eq_ofNat_of_zero_le (show 0 ≤ m by omega)
    simp only [Int.toNat_natCast]
    have hP := positions_any s m (by omega) (by omega)
    have HP := Lib.hid hP; clear hP hg hg'
    go_enter Try.func25, Try.ntmps25
    go_wp2_with fail
    have hzW : w.heap.size < (w.alloc (.cells #[.int .i64 s, .int .i64 m] 25)).heap.size := by simp
    have hAW : Below w.heap.size w (w.alloc (.cells #[.int .i64 s, .int .i64 m] 25)) := (Below.refl _ _).alloc (Nat.le_refl _) _
    have c0W : (w.alloc (.cells #[.int .i64 s, .int .i64 m] 25)).cell? ⟨w.heap.size, 0, none⟩ = some (.int .i64 s) := by simp [go_sem]
    have c1W : (w.alloc (.cells #[.int .i64 s, .int .i64 m] 25)).cell? ⟨w.heap.size, 1, none⟩ = some (.int .i64 m) := by simp [go_sem]
    generalize w.alloc (.cells #[.int .i64 s, .int .i64 m] 25) = W at *
    refine (HC.out _).mono ?_; rintro e w1 ⟨rfl, hb1⟩
    have q0 := (hb1.cell (p := ⟨w.heap.size, 0, none⟩) hzW).trans c0W
    have q1 := (hb1.cell (p := ⟨w.heap.size, 1, none⟩) hzW).trans c1W
    have hz1 := hb1.size
    have hb2 := hAW.trans (hb1.mono (by omega))
    go_wp2_with fail
    refine (HP.out _).mono ?_; rintro e w2 ⟨A, c, rfl, hf, hb3⟩
    go_wp2
    refine bodyPost_ret (v := .tuple #[.slice A (allTo s (m + 1)).length c, .bool true]) (by simp [results, Try.results25, go_sem]) rfl ⟨A, c, rfl, hf.le (Nat.le_trans (Nat.le_of_lt hzW) hz1), hb2.trans (hb3.mono (by omega))⟩
set_option maxHeartbeats 400000 in
theorem boxS_any (s m : Int) (w : World) :
    Calls Try.prog 24 #[.agg #[.int .i64 s, .int .i64 m]] w fun e w' =>
      ∃ A c, e = .returned (.tuple #[.slice A (boxL s m).length c, .bool (goodBoxB s m)]) ∧ FrR w' w.heap.size 28 3 (.slice A (boxL s m).length c) ((boxL s m).map ints) ∧ Below w.heap.size w w' := by
  cases hg : goodBoxB s m
  · have e1 : boxL s m = [] := by simp [boxL, hg]
    rw [e1]
    clear e1
    have hc := goodBoxS_any s m
    rw [hg] at hc
    have HC := Lib.hid hc; clear hc
    go_enter Try.func24, Try.ntmps24
    go_wp2_with fail
    refine (HC.out _).mono ?_; rintro e w1 ⟨rfl, hb1⟩
    go_wp2
    refine bodyPost_ret (v := .tuple #[.slice none 0 0, .bool false]) (by simp [results, Try.results24, go_sem]) rfl ⟨none, 0, rfl, FrR.none _ _ _ _, ?_⟩
    exact ((Below.refl _ _).alloc (Nat.le_refl _) _).trans (hb1.mono (by simp))
  · have e1 : boxL s m = allTo s.toNat (m.toNat + 1) := by simp [boxL, hg]
    rw [e1]
    clear e1
    have hc := goodBoxS_any s m
    rw [hg] at hc
    have HC := Lib.hid hc; clear hc
    have hg' := hg
    simp [goodBoxB] at hg'
    obtain ⟨s, rfl⟩ := Int.eq_ofNat_of_zero_le (show 0 ≤ s by omega)
    obtain ⟨m, rfl⟩ := Int.eq_ofNat_of_zero_le (show 0 ≤ m by omega)
    simp only [Int.toNat_natCast]
    have hP := l20All_any s m (by omega) (by omega)
    have HP := Lib.hid hP; clear hP hg hg'
    go_enter Try.func24, Try.ntmps24
    go_wp2_with fail
    have hzW : w.heap.size < (w.alloc (.cells #[.int .i64 s, .int .i64 m] 25)).heap.size := by simp
    have hAW : Below w.heap.size w (w.alloc (.cells #[.int .i64 s, .int .i64 m] 25)) := (Below.refl _ _).alloc (Nat.le_refl _) _
    have c0W : (w.alloc (.cells #[.int .i64 s, .int .i64 m] 25)).cell? ⟨w.heap.size, 0, none⟩ = some (.int .i64 s) := by simp [go_sem]
    have c1W : (w.alloc (.cells #[.int .i64 s, .int .i64 m] 25)).cell? ⟨w.heap.size, 1, none⟩ = some (.int .i64 m) := by simp [go_sem]
    generalize w.alloc (.cells #[.int .i64 s, .int .i64 m] 25) = W at *
    refine (HC.out _).mono ?_; rintro e w1 ⟨rfl, hb1⟩
    have q0 := (hb1.cell (p := ⟨w.heap.size, 0, none⟩) hzW).trans c0W
    have q1 := (hb1.cell (p := ⟨w.heap.size, 1, none⟩) hzW).trans c1W
    have hz1 := hb1.size
    have hb2 := hAW.trans (hb1.mono (by omega))
    go_wp2_with fail
    refine (HP.out _).mono ?_; rintro e w2 ⟨A, c, rfl, hf, hb3⟩
    go_wp2
    refine bodyPost_ret (v := .tuple #[.slice A (allTo s (m + 1)).length c, .bool true]) (by simp [results, Try.results24, go_sem]) rfl ⟨A, c, rfl, hf.le (Nat.le_trans (Nat.le_of_lt hzW) hz1), hb2.trans (hb3.mono (by omega))⟩

theorem off_bound (xss : List (List Int)) (h : ∀ x ∈ xss, x.length ≤ 6) : ∀ i, i ≤ xss.length → off xss i ≤ 6 * i := by
  intro i
  induction i with
  | zero => intro _; simp [off]
  | succ i ih =>
    intro hi
    have h1 := ih (by omega)
    have h2 : (gl xss i).length ≤ 6 := by rw [gl_lt (show i < xss.length by omega)]; exact h _ (List.getElem_mem _)
    rw [off]; omega
theorem boxL_facts (s m : Int) : (boxL s m).length ≤ 823543 ∧ ∀ x ∈ boxL s m, x.length ≤ 6 := by
  unfold boxL
  split
  · next hg =>
    simp [goodBoxB] at hg
    obtain ⟨s, rfl⟩ := Int.eq_ofNat_of_zero_le (show 0 ≤ s by omega)
    obtain ⟨m, rfl⟩ := Int.eq_ofNat_of_zero_le (show 0 ≤ m by omega)
    simp only [Int.toNat_natCast]
    refine ⟨allTo_le s (by omega) (m + 1) (by omega), fun x hx => ?_⟩
    unfold allTo at hx
    rw [List.mem_flatMap] at hx
    obtain ⟨k, hk, hx⟩ := hx
    rw [List.mem_range] at hk
    rw [bx_row s k 1 x hx]
    omega
  · simp

set_option maxHeartbeats 1600000 in
theorem lawBox (s m : Int) (w : World) (hs : (Lit.int .i64 s).wf = true) (hm : (Lit.int .i64 m).wf = true) :
    Calls Try.prog 6 #[.agg #[.int .i64 s, .int .i64 m]] w fun e w' => e = .returned (.bool true) ∧ Below w.heap.size w w' := by
  clear hs hm
  obtain ⟨hL1, hL2⟩ := boxL_facts s m
  have HOf := Lib.hid (off_bound (boxL s m) hL2); clear hL2
  have HS := Lib.hid (boxS_any s m); have HI := Lib.hid (boxI_any s m)
  generalize goodBoxB s m = G at *
  generalize boxL s m = L at *
  go_enter Try.func6, Try.ntmps6
  go_wp2_with fail
  have hzW : w.heap.size < (w.alloc (.cells #[.int .i64 s, .int .i64 m] 23)).heap.size := by simp
  have hAW : Below w.heap.size w (w.alloc (.cells #[.int .i64 s, .int .i64 m] 23)) := (Below.refl _ _).alloc (Nat.le_refl _) _
  have c0W : (w.alloc (.cells #[.int .i64 s, .int .i64 m] 23)).cell? ⟨w.heap.size, 0, none⟩ = some (.int .i64 s) := by simp [go_sem]
  have c1W : (w.alloc (.cells #[.int .i64 s, .int .i64 m] 23)).cell? ⟨w.heap.size, 1, none⟩ = some (.int .i64 m) := by simp [go_sem]
  generalize w.alloc (.cells #[.int .i64 s, .int .i64 m] 23) = W at *
  refine (toBox_any _ _ _).mono ?_; rintro e w1 ⟨rfl, hb1⟩
  have hz1 := hb1.size
  go_wp2_with fail
  refine (HS.out _).mono ?_; rintro e w2 ⟨A2, c2, rfl, hf2, hb2⟩
  have g2 := gtr hb1 hb2
  have q0 := (g2.cell (p := ⟨w.heap.size, 0, none⟩) hzW).trans c0W
  have q1 := (g2.cell (p := ⟨w.heap.size, 1, none⟩) hzW).trans c1W
  go_wp2_with fail
  refine (toBox_any _ _ _).mono ?_; rintro e w3 ⟨rfl, hb3⟩
  have hf3 := hf2.below hb3
  have g3 := gtr g2 hb3
  have hz2 := hb2.size
  have hz3 := hb3.size
  go_wp2_with fail
  refine (HI.out _).mono ?_; rintro e w4 ⟨A4, c4, rfl, hf4, hb4⟩
  have hz4 := hb4.size
  have hr2 : RdR w4 w1.heap.size w3.heap.size A2 c2 L := (hf3.rd).below hb4 (Nat.le_refl _)
  have g4 := gtr g3 hb4
  clear hf2 hf3 q0 q1
  go_wp2_with fail
  refine (eqRows_any A4 A2 c4 c2 L L w4 w3.heap.size w1.heap.size w4.heap.size (Nat.le_refl _) hf4.rd (hr2.more hz4)).mono ?_; rintro e w5 ⟨rfl, hb5⟩
  rw [decide_eq_true (rfl : L = L)]
  have hz5 := hb5.size
  have g5 := gtr g4 hb5
  have hr5 := hr2.below hb5 hz4
  have hf5 := hf4.below hb5
  have hbd := HOf.out L.length (Nat.le_refl _)
  clear hf4 hr2
  go_wp2_with fail
  refine (markRows_any A4 c4 L 1 w5 w3.heap.size hf5 (by omega) (by omega) (by omega)).mono ?_; rintro e w6 ⟨rfl, hf6, hb6⟩
  have hz6 := hb6.size
  have g6 := g5.trans (hb6.mono g3.size)
  have hr6 := hr5.below hb6 (Nat.le_refl _)
  have hheld : Hid (∀ w' B, B ≤ w'.heap.size → RdR w' w3.heap.size B A4 c4 (mk 1 L L.length) → Calls Try.prog 28 #[.slice A4 L.length c4, .int .i64 1] w' fun e w'' => e = .returned (.int .i64 (1 + off L L.length)) ∧ w' = w'') := fun w' B hB hr => by
    have hgl : ∀ j, j < L.length → gl (mk 1 L L.length) j = numRow (1 + off L j) (gl L j).length := fun j hj => by rw [gl_mk 1 L L.length j hj, if_pos hj]
    have := heldRows_any A4 c4 (mk 1 L L.length) 1 (off L) w' w3.heap.size B hB hr (by omega) rfl
      (fun j hj => by rw [mk_len] at hj; rw [hgl j hj, numRow_len]; rfl)
      (fun j hj => by rw [mk_len] at hj; rw [hgl j hj, numRow_len])
      (fun j hj => by rw [mk_len] at hj; have := HOf.out j hj; omega)
    rw [mk_len] at this
    exact this
  have hr6' := hf6.rd
  clear hf5 hr5
  generalize off L L.length = N at *
  generalize mk 1 L L.length = Y at *
  go_wp2_with fail
  refine (hheld.out w6 _ (Nat.le_refl _) hr6').mono ?_; rintro e w7 ⟨rfl, rfl⟩
  have q0 := (g6.cell (p := ⟨w.heap.size, 0, none⟩) hzW).trans c0W
  have q1 := (g6.cell (p := ⟨w.heap.size, 1, none⟩) hzW).trans c1W
  have hnn : ¬ 1 + (N : Int) < 0 := by omega
  go_wp2_with fail
  refine (toBox_any _ _ _).mono ?_; rintro e w8 ⟨rfl, hb8⟩
  have hz8 := hb8.size
  go_wp2_with fail
  refine (HI.out _).mono ?_; rintro e w9 ⟨A9, c9, rfl, hf9, hb9⟩
  have hz9 := hb9.size
  have g9 := gtr (gtr g6 hb8) hb9
  have hr9 := (hr6.below hb8 (by omega)).below hb9 (by omega)
  have hr9' := (hr6'.below hb8 (Nat.le_refl _)).below hb9 (by omega)
  go_wp2_with fail
  refine (eqRows_any A9 A2 c9 c2 L L w9 w8.heap.size w1.heap.size w9.heap.size (Nat.le_refl _) hf9.rd (hr9.more (by omega))).mono ?_; rintro e w10 ⟨rfl, hb10⟩
  rw [decide_eq_true (rfl : L = L)]
  have g10 := gtr g9 hb10
  have hz10 := hb10.size
  go_wp2_with fail
  refine (hheld.out w10 _ (by omega) (hr9'.below hb10 (by omega))).mono ?_; rintro e w11 ⟨rfl, rfl⟩
  go_wp2
  go_ret
  exact ⟨rfl, gtr hAW g10⟩
end Go.Proofs.Ytflbedfgeiljmaa
