/- FnFar returns true: the walk. Conditions: none. -/
import Derived.Test.YtidfbbegjpfjpaaDrawFar
import Derived.Test.YtidfbbegjpfjpaaFarPer
namespace Go.Proofs.Ytidfbbegjpfjpaa
open Go.RowKit
set_option linter.unusedVariables false

def hasB (xs : List Int) (x : Int) : Bool := decide (x ∈ xs)
set_option maxHeartbeats 400000 in
theorem rHas_any (A : Option Addr) (c : Nat) (xs : List Int) (x : Int) (w : World) (B : Nat) (h : RdI w B A c xs) :
    Calls Try.prog 17 #[.slice A xs.length c, .int .i64 x] w fun e w' => e = .returned (.bool (hasB xs x)) ∧ w = w' := by
  have h1 := h.len
  have h2 := h.max
  go_enter Try.func17, Try.ntmps17
  go_wp2
  go_loop [5] (fun i => ∃ k : Nat, i = .int .i64 k ∧ k ≤ xs.length ∧ ∀ j, j < k → gi xs j ≠ x) (fun i => xs.length - (intOf i).toNat)
  case atStart => exact ⟨0, rfl, by omega, fun j hj => absurd hj (by omega)⟩
  case round =>
    obtain ⟨k, rfl, hk, hs⟩ := hrel
    have HS := Lib.hid hs; clear hs
    by_cases hlt : k < xs.length
    · obtain ⟨b, o, rfl, hbB, hc⟩ := h.at (j := k) hlt
      have hck := hc k hlt
      clear hc
      by_cases he : gi xs k = x
      · have HE : Hid (hasB xs x = true) := by
          show hasB xs x = true
          rw [hasB, decide_eq_true_eq, ← he]
          have : gi xs k = xs[k] := by simp [gi, hlt]
          rw [this]; exact List.getElem_mem hlt
        have hbe : (gi xs k == x) = true := by simpa using he
        clear he
        go_wp2
        go_ret
        exact ⟨ret_bool HE.out.symm, rfl⟩
      · have hbe : (gi xs k == x) = false := by simpa using he
        have HE : Hid (¬ gi xs k = x) := he
        clear he
        go_wp2
        go_round
        case rel => exact ⟨k + 1, by go_num, by omega, fun j hj => if hjk : j = k then by rw [hjk]; exact HE.out else HS.out j (by omega)⟩
        case measure => simp [intOf]; omega
    · have HE : Hid (hasB xs x = false) := by
        show hasB xs x = false
        rw [hasB, decide_eq_false_iff_not]
        intro hm
        obtain ⟨j, hj, e⟩ := List.getElem_of_mem hm
        have := HS.out j (by omega)
        exact this (by rw [← e]; simp [gi, hj])
      go_wp2
      go_ret
      exact ⟨ret_bool HE.out.symm, rfl⟩

set_option maxRecDepth 100000 in
set_option maxHeartbeats 3200000 in
theorem lawFnFar (a : Option Addr) (len cap : Nat) (zs : List Int) (w : World) (h : IsRow .u8 w a len cap zs) :
    Calls Try.prog 4 #[.slice a len cap] w fun e w' => e = .returned (.bool true) ∧ Below w.heap.size w w' := by
  obtain ⟨hr, hl⟩ := h.rdY
  clear h
  generalize zs.take len = bs at hr hl
  subst hl
  have h1 := hr.1.len
  have h2 := hr.1.max
  rw [byts_len] at h1
  have HB := Lib.hid (rBig_any a bs.length cap)
  by_cases hbig : 65536 < bs.length
  · have hbt : decide (65536 < bs.length) = true := by simpa using hbig
    have hB := HB.out w (by omega)
    rw [hbt] at hB
    have HB' := Lib.hid hB
    clear hB hbt
    go_enter Try.func4, Try.ntmps4
    go_wp2_with fail
    ((with_reducible refine HB'.out.mono ?_); rintro e w1 ⟨rfl, rfl⟩)
    go_wp2
    go_ret
    exact ⟨rfl, Below.refl _ _⟩
  · have hbt : decide (65536 < bs.length) = false := by simpa using hbig
    have hB := HB.out w (by omega)
    rw [hbt] at hB
    have HB' := Lib.hid hB
    clear hB hbt hbig
    go_enter Try.func4, Try.ntmps4
    go_wp2_with fail
    ((with_reducible refine HB'.out.mono ?_); rintro e w1 ⟨rfl, rfl⟩)
    go_wp2_with fail
    ((with_reducible refine (drawFar_any _ _ _ _ hr).mono ?_); rintro e w1 ⟨A1, c1, xs, p, l, n, rfl, ho1, hb1, hxl⟩)
    have hz1 := hb1.size
    have hlen1 : xs.length ≤ c1 := (ho1.rd rfl).len
    have hP2 := Blk.new w1 39 #[.int .i64 p, .int .i64 l]
    have ho2 := ho1.below (bel1 w1 (.cells #[.int .i64 p, .int .i64 l] 39))
    have g2 := gtr hb1 (bel1 w1 (.cells #[.int .i64 p, .int .i64 l] 39))
    go_wp2_with fail
    generalize w1.alloc (.cells #[.int .i64 p, .int .i64 l] 39) = W2 at *
    obtain ⟨P4, hP4e⟩ : ∃ P4, P4 = w1.heap.size := ⟨_, rfl⟩
    rw [← hP4e] at hP2 ⊢
    clear hP4e
    have hfi := fun W B hB hh => farI_any A1 c1 xs p l n W B hB hh
    have hfs := fun W B hB hh => farS_any A1 c1 xs p l n W B hB hh
    obtain ⟨fk, hfk⟩ : ∃ fk, farOk xs p l n = fk := ⟨_, rfl⟩
    obtain ⟨fv, hfv⟩ : ∃ fv, farV xs p l n = fv := ⟨_, rfl⟩
    rw [hfk, hfv] at hfi hfs
    have HFI := Lib.hid hfi; have HFS := Lib.hid hfs
    have HFK := Lib.hid hfk; have HFV := Lib.hid hfv
    clear hfi hfs hfk hfv
    ((with_reducible refine (HFI.out _ _ (Nat.le_refl _) (ho2.rd rfl)).mono ?_); rintro e w3 ⟨rfl, hb3⟩)
    have ho3 := ho2.below hb3
    have hP3 := hP2.below hb3 hP2.lt
    have g3 := gtr g2 hb3
    have q0 : w3.cell? ⟨P4, 0, none⟩ = some (.int .i64 p) := hP3.cell 0
    have q1 : w3.cell? ⟨P4, 1, none⟩ = some (.int .i64 l) := hP3.cell 1
    clear ho2 hP2 hb3 g2
    go_wp2_with fail
    ((with_reducible refine (HFS.out _ _ (Nat.le_refl _) (ho3.rd rfl)).mono ?_); rintro e w4 ⟨rfl, hb4⟩)
    have ho4 := ho3.below hb4
    have hP4 := hP3.below hb4 hP3.lt
    have g4 := gtr g3 hb4
    have p0 : w4.cell? ⟨P4, 0, none⟩ = some (.int .i64 p) := hP4.cell 0
    have p1 : w4.cell? ⟨P4, 1, none⟩ = some (.int .i64 l) := hP4.cell 1
    clear ho3 hP3 hb4 g3 q0 q1
    cases fk
    · go_wp2
      go_ret
      exact ⟨rfl, g4⟩
    · obtain ⟨hpr, hn0, hn1⟩ := farOk_iff.1 HFK.out
      have hval := farV_ok HFK.out
      rw [HFV.out] at hval
      obtain ⟨f1, f2, f3, f4, _⟩ := seen_facts hpr
      obtain ⟨p, rfl⟩ := Int.eq_ofNat_of_zero_le f2
      obtain ⟨l, rfl⟩ := Int.eq_ofNat_of_zero_le (show 0 ≤ l by omega)
      have HSI : Hid (∀ W, RdI W W.heap.size A1 c1 xs → Calls Try.prog 16 #[.slice A1 xs.length c1, .agg #[.int .i64 p, .int .i64 l]] W (SeenI W (putAll (rowL xs p l)) true)) := fun W hh => seenI_good A1 c1 xs p l W _ (Nat.le_refl _) hh hpr
      obtain ⟨m, rfl⟩ := Int.eq_ofNat_of_zero_le hn0
      obtain ⟨hon1, hon2, hon3, hon4⟩ := proved_on hpr
      rw [Int.toNat_natCast, Int.toNat_natCast] at hon4
      have HHV : Hid ((m : Int) ≤ 300 → ∀ W B, B ≤ W.heap.size → RdI W B A1 c1 xs → Calls Try.prog 18 #[.slice A1 xs.length c1, .int .i64 m] W (HvGoodN xs m W)) := fun hm W B hB hh => hvn_good A1 c1 xs m W B (by omega) hB hh hon1 (V_small hon3 (by omega))
      have HXV : Hid ((m : Int) ≤ 300 → fv = ((val xs m : Nat) : Int)) := fun hm => by rw [hval, far_val (by omega) hon4 m (by omega)]
      have HHAS : Hid ((p : Int) ≤ (m : Int) → hasB (putAll (rowL xs p l)) fv = true) := fun hpm => by
        rw [hasB, decide_eq_true_eq, hval]
        exact far_seen (by omega) hpm
      have HNX : Hid ((p : Int) ≤ (m : Int) → (m : Int) + (l : Int) ≤ 1000000000 → ∀ W B, B ≤ W.heap.size → RdI W B A1 c1 xs → Calls Try.prog 14 #[.slice A1 xs.length c1, .agg #[.int .i64 p, .int .i64 l], .int .i64 ((m : Int) + (l : Int))] W fun e w' => e = .returned (.tuple #[.int .i64 fv, .bool true]) ∧ Below W.heap.size W w') := fun hpm hml W B hB hh => by
        have hk : farOk xs p l ((m : Int) + l) = true := farOk_iff.2 ⟨hpr, by omega, hml⟩
        have := farI_any A1 c1 xs p l ((m : Int) + l) W B hB hh
        rw [hk, farV_ok hk, far_next (by omega) hpm, ← hval] at this
        exact this
      have hpl : (p : Int) + (l : Int) ≤ 150 := f4
      clear hval hpr hon1 hon2 hon3 hon4 HFI HFS HFK HFV f1 f2 f3 f4
      go_wp2_with fail
      ((with_reducible refine (HSI.out _ (ho4.rd rfl)).mono ?_); rintro e w5 ⟨A5, c5, rfl, hs5, hb5⟩)
      have ho5 := ho4.below hb5
      have hP5 := hP4.below hb5 hP4.lt
      have g5 := gtr g4 hb5
      have q0 : w5.cell? ⟨P4, 0, none⟩ = some (.int .i64 p) := hP5.cell 0
      have q1 : w5.cell? ⟨P4, 1, none⟩ = some (.int .i64 l) := hP5.cell 1
      clear ho4 hP4 hb5 g4 p0 p1
      by_cases hpm : (p : Int) ≤ (m : Int)
      · go_wp2_with fail
        ((with_reducible refine (rHas_any _ _ _ _ _ _ (RdI.of_own hs5)).mono ?_); rintro e w6 ⟨rfl, rfl⟩)
        rw [HHAS.out hpm]
        by_cases hml : (m : Int) + (l : Int) ≤ 1000000000
        · go_wp2_with fail
          ((with_reducible refine (HNX.out hpm hml _ _ (Nat.le_refl _) (ho5.rd rfl)).mono ?_); rintro e w7 ⟨rfl, hb7⟩)
          have ho7 := ho5.below hb7
          have g7 := gtr g5 hb7
          by_cases hm : (m : Int) ≤ 300
          · go_wp2_with fail
            ((with_reducible refine (HHV.out (by omega) _ _ (Nat.le_refl _) (ho7.rd rfl)).mono ?_); rintro e wz ⟨Az, cz, rfl, hoz, hbz⟩)
            have gz := gtr g7 hbz
            obtain ⟨b, o, rfl, hbB, hc⟩ := (hoz.rd (by rw [nats_len, V_len])).at (j := m) (by rw [nats_len, V_len]; omega)
            have hmax := (hoz.rd (by rw [nats_len, V_len])).max
            have hlz := (hoz.rd (by rw [nats_len, V_len])).len
            rw [nats_len, V_len] at hlz
            have hck := hc m (by rw [nats_len, V_len]; omega)
            rw [gi_nats, val_at xs (show m < m + 1 by omega), ← HXV.out (by omega)] at hck
            clear hc hoz
            go_wp2
            go_ret
            exact ⟨rfl, gz⟩
          · go_wp2
            go_ret
            exact ⟨rfl, g7⟩
        · have hm : ¬ (m : Int) ≤ 300 := by omega
          go_wp2
          go_ret
          exact ⟨rfl, g5⟩
      · have hm : (m : Int) ≤ 300 := by omega
        go_wp2_with fail
        ((with_reducible refine (HHV.out (by omega) _ _ (Nat.le_refl _) (ho5.rd rfl)).mono ?_); rintro e wz ⟨Az, cz, rfl, hoz, hbz⟩)
        have gz := gtr g5 hbz
        obtain ⟨b, o, rfl, hbB, hc⟩ := (hoz.rd (by rw [nats_len, V_len])).at (j := m) (by rw [nats_len, V_len]; omega)
        have hmax := (hoz.rd (by rw [nats_len, V_len])).max
        have hlz := (hoz.rd (by rw [nats_len, V_len])).len
        rw [nats_len, V_len] at hlz
        have hck := hc m (by rw [nats_len, V_len]; omega)
        rw [gi_nats, val_at xs (show m < m + 1 by omega), ← HXV.out (by omega)] at hck
        clear hc hoz
        go_wp2
        go_ret
        exact ⟨rfl, gz⟩
end Go.Proofs.Ytidfbbegjpfjpaa
