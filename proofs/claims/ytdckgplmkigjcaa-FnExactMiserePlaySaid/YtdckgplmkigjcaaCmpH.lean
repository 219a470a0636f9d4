/- The order of lists of heaps: slices.Compare, cmp.Or, compareHeaps by contracts. Conditions: none. -/
import Derived.Test.YtdckgplmkigjcaaFp
import Derived.Test.YtdckgplmkigjcaaShelfF
namespace Go.Proofs.Ytdckgplmkigjcaa
open Go.RowKit
set_option linter.unusedVariables false

def cmpH (a b : List Int) : Int := if a.length = b.length then cmpL a b else if a.length < b.length then -1 else 1

theorem cmpI_any (x y : Int) (w : World) : Calls Try.prog 119 #[.int .i64 x, .int .i64 y] w fun e w' => e = .returned (.int .i64 (Lib.compareInt x y)) ∧ w' = w := Any.cmp_Compare_int Try.lays122 x y w
theorem cmpI_eq {x y : Int} (h : x = y) : Lib.compareInt x y = 0 := by unfold Lib.compareInt; rw [if_neg (show ¬ x < y by omega), if_neg (show ¬ x > y by omega)]
theorem cmpI_lt {x y : Int} (h : x < y) : Lib.compareInt x y = -1 := by unfold Lib.compareInt; rw [if_pos h]
theorem cmpI_gt {x y : Int} (h : y < x) : Lib.compareInt x y = 1 := by unfold Lib.compareInt; rw [if_neg (show ¬ x < y by omega), if_pos h]

set_option maxHeartbeats 800000 in
theorem sCompare_any (A A' : Option Addr) (c c' : Nat) (xs ys : List Int) (w : World) (B : Nat) (h : RdI w B A c xs) (h' : RdI w B A' c' ys) :
    Calls Try.prog 120 #[.slice A xs.length c, .slice A' ys.length c'] w fun e w' => e = .returned (.int .i64 (cmpL xs ys)) ∧ w' = w := by
  have h1 := h.len
  have h2 := h.max
  have h3 := h'.len
  have h4 := h'.max
  go_enter Try.func120, Try.ntmps120
  go_wp2
  go_loop [11] (fun i => ∃ k : Nat, i = .int .i64 k ∧ k ≤ xs.length ∧ k ≤ ys.length ∧ (∀ j, j < k → gi xs j = gi ys j)) (fun i => xs.length - (intOf i).toNat)
  case atStart => exact ⟨0, rfl, by omega, by omega, fun j hj => absurd hj (by omega)⟩
  case round =>
    obtain ⟨k, rfl, hk, hk', hs⟩ := hrel
    have HS := Lib.hid hs; clear hs
    by_cases hlx : k < xs.length
    · obtain ⟨b, o, rfl, hbB, hc⟩ := h.at (j := k) hlx
      have hc1 := hc k hlx
      clear hc
      by_cases hly : k < ys.length
      · obtain ⟨b', o', rfl, hbB', hc'⟩ := h'.at (j := k) hly
        have hc2 := hc' k hly
        clear hc'
        by_cases he : gi xs k = gi ys k
        · have ht : (Lib.compareInt (gi xs k) (gi ys k) != 0) = false := by rw [cmpI_eq he]; rfl
          have HE := Lib.hid he; clear he
          go_wp2_with (go_at_call 119; (with_reducible refine (cmpI_any _ _ _).mono ?_); rintro e w1 ⟨rfl, rfl⟩)
          go_round
          case rel => exact ⟨k + 1, by go_num, by omega, by omega, fun j hj => if hjk : j = k then by subst hjk; exact HE.out else HS.out j (by omega)⟩
          case measure => simp [intOf]; omega
        · have HE : Hid (cmpL xs ys = Lib.compareInt (gi xs k) (gi ys k)) := by
            show _ = _
            rw [cmpL_at xs ys k hlx hly HS.out he]
            unfold Lib.compareInt
            split
            · rfl
            · rw [if_pos (by omega)]
          have ht : (Lib.compareInt (gi xs k) (gi ys k) != 0) = true := by
            by_cases hl : gi xs k < gi ys k
            · rw [cmpI_lt hl]; rfl
            · rw [cmpI_gt (by omega)]; rfl
          clear he
          go_wp2_with (go_at_call 119; (with_reducible refine (cmpI_any _ _ _).mono ?_); rintro e w1 ⟨rfl, rfl⟩)
          go_ret
          exact ⟨ret_i64 HE.out.symm, rfl⟩
      · have hky : k = ys.length := by omega
        have HE : Hid (cmpL xs ys = 1) := by
          show _ = _
          rw [cmpL_end xs ys k hk hk' (by omega) HS.out, if_neg (by omega), if_pos (by omega)]
        have hge : (ys.length : Int) ≤ (k : Int) := by omega
        clear hky
        go_wp2
        go_ret
        exact ⟨ret_i64 HE.out.symm, rfl⟩
    · have hkx : k = xs.length := by omega
      have HE : Hid (cmpL xs ys = if xs.length < ys.length then -1 else 0) := by
        show _ = _
        rw [cmpL_end xs ys k hk hk' (by omega) HS.out]
        by_cases hl : xs.length < ys.length
        · rw [if_pos hl, if_pos hl]
        · rw [if_neg hl, if_neg hl, if_neg (by omega)]
      by_cases hl : xs.length < ys.length
      · rw [if_pos hl] at HE
        clear hkx
        go_wp2
        go_ret
        exact ⟨ret_i64 HE.out.symm, rfl⟩
      · rw [if_neg hl] at HE
        clear hkx
        go_wp2
        go_ret
        exact ⟨ret_i64 HE.out.symm, rfl⟩

set_option maxHeartbeats 400000 in
/-- cmp.Or of two numbers. -/
theorem or2_any (g : Nat) (a b : Int) (w : World) (h : Blk w g 3 #[.int .i64 a, .int .i64 b]) :
    Calls Try.prog 118 #[.slice (some ⟨g, 0, none⟩) 2 2] w fun e w' => e = .returned (.int .i64 (if a = 0 then b else a)) ∧ w' = w := by
  have c0 : w.cell? ⟨g, 0, none⟩ = some (.int .i64 a) := h.cell 0
  have c1 : w.cell? ⟨g, 1, none⟩ = some (.int .i64 b) := h.cell 1
  clear h
  obtain ⟨v, hv⟩ : ∃ v, v = if a = 0 then b else a := ⟨_, rfl⟩
  have HV := Lib.hid hv
  rw [← hv]
  clear hv
  go_enter Try.func118, Try.ntmps118
  go_wp2
  go_loop [8] (fun i => (i = .int .i64 0) ∨ (i = .int .i64 1 ∧ a = 0) ∨ (i = .int .i64 2 ∧ a = 0 ∧ b = 0)) (fun i => 2 - (intOf i).toNat)
  case atStart => exact .inl rfl
  case round =>
    rcases hrel with rfl | ⟨rfl, ha⟩ | ⟨rfl, ha, hb⟩
    · by_cases ha : a = 0
      · have ht : (a != 0) = false := by simp [ha]
        have HA := Lib.hid ha; clear ha
        go_wp2
        go_round
        case rel => exact .inr (.inl ⟨by go_num, HA.out⟩)
        case measure => simp [intOf]
      · have ht : (a != 0) = true := by simp [ha]
        have HA := Lib.hid ha; clear ha
        go_wp2
        go_ret
        exact ⟨ret_i64 (by rw [HV.out, if_neg HA.out]), rfl⟩
    · have HA := Lib.hid ha; clear ha
      by_cases hb : b = 0
      · have ht : (b != 0) = false := by simp [hb]
        have HB := Lib.hid hb; clear hb
        go_wp2
        go_round
        case rel => exact .inr (.inr ⟨by go_num, HA.out, HB.out⟩)
        case measure => simp [intOf]
      · have ht : (b != 0) = true := by simp [hb]
        clear hb
        go_wp2
        go_ret
        exact ⟨ret_i64 (by rw [HV.out, if_pos HA.out]), rfl⟩
    · have HE : Hid (v = 0) := by show _ = _; rw [HV.out, if_pos ha, hb]
      clear ha hb
      go_wp2
      go_ret
      exact ⟨ret_i64 HE.out.symm, rfl⟩

set_option maxHeartbeats 400000 in
theorem compare_any (A A' : Option Addr) (c c' : Nat) (xs ys : List Int) (w : World) (B : Nat) (hB : B ≤ w.heap.size) (h : RdI w B A c xs) (h' : RdI w B A' c' ys) :
    Calls Try.prog 111 #[.slice A xs.length c, .slice A' ys.length c'] w fun e w' => e = .returned (.int .i64 (cmpH xs ys)) ∧ Gr w w' := by
  have h1 := h.len
  have h2 := h.max
  have h3 := h'.len
  have h4 := h'.max
  have HE : Hid (cmpH xs ys = if Lib.compareInt xs.length ys.length = 0 then cmpL xs ys else Lib.compareInt xs.length ys.length) := by
    show _ = _
    unfold cmpH
    rcases Nat.lt_trichotomy xs.length ys.length with hl | hl | hl
    · rw [if_neg (by omega), if_pos hl, cmpI_lt (by omega), if_neg (by decide)]
    · rw [if_pos hl, cmpI_eq (by omega), if_pos rfl]
    · rw [if_neg (by omega), if_neg (by omega), cmpI_gt (by omega), if_neg (by decide)]
  have HR := Lib.hid h; have HR' := Lib.hid h'
  clear h h'
  go_enter Try.func111, Try.ntmps111
  go_wp2_with (first
    | (go_at_call 119; (with_reducible refine (cmpI_any _ _ _).mono ?_); rintro e w1 ⟨rfl, rfl⟩)
    | (go_at_call 120; (with_reducible refine (sCompare_any _ _ _ _ xs ys _ B HR.out HR'.out).mono ?_); rintro e w2 ⟨rfl, rfl⟩)
    | (go_at_call 118; (with_reducible refine (or2_any _ _ _ _ (Blk.new _ _ _)).mono ?_); rintro e w3 ⟨rfl, rfl⟩))
  all_goals
    go_ret
    refine ⟨ret_i64 ?_, (Gr.refl _).alloc _⟩
    rw [HE.out]
    first
      | rw [if_pos (by assumption)]
      | rw [if_neg (by assumption)]
end Go.Proofs.Ytdckgplmkigjcaa
