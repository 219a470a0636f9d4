/- l1Read of the reference, by contract. Conditions: none. -/
import Derived.Test.YtpepkpikeggceaaDoorRn0
namespace Go.Proofs.YtpepkpikeggceaaDoor
open Go.RowKit
set_option linter.unusedVariables false

set_option maxHeartbeats 400000 in
theorem l1NumZ_any (n : Int) (w : World) (h0 : -1000000 ≤ n) (h1 : n ≤ 1000000) :
    Calls Tryd.prog 56 #[.int .i64 n] w fun e w' => e = .returned (.string (str (Lib.itoa n))) ∧ ∃ m, w' = w.drewN m := by
  by_cases h : 0 ≤ n
  · obtain ⟨k, rfl⟩ := Int.eq_ofNat_of_zero_le h
    rw [Lib.itoa_nonneg]
    exact l1Num_any k w (by omega)
  · obtain ⟨k, hk⟩ := Int.eq_ofNat_of_zero_le (show 0 ≤ -n by omega)
    obtain rfl : n = -(k : Int) := by omega
    have HL := Lib.hid fun W => l1Num_any k W (by omega)
    have hd : (⟨#[45]⟩ : ByteArray) ++ str (Lib.decDigits k) = str (Lib.itoa (-(k : Int))) := by
      rw [Lib.itoa_neg k (by omega)]
      refine str_of _ ?_
      rw [data_append]; rfl
    have hlk := decDigits_len k (by omega)
    have hadd := fun W => run_string_add_sum (P := Tryd.prog) (w := W) (⟨#[45]⟩ : ByteArray) (str (Lib.decDigits k)) (by rw [str_size]; simp [ByteArray.size]; omega)
    rw [hd] at hadd
    generalize str (Lib.itoa (-(k : Int))) = r at *
    generalize str (Lib.decDigits k) = q at *
    have hk0 : -(k : Int) < 0 := by omega
    clear hd hlk hk
    go_enter Tryd.func56, Tryd.ntmps56
    go_wp2_with (go_at_call 56; (with_reducible refine (HL.out _).mono ?_); rintro e w1 ⟨rfl, m, rfl⟩)
    go_ret
    exact ⟨rfl, m, rfl⟩

theorem bsne2 {a b : ByteArray} (h : a ≠ b) : (a.toList == b.toList) = false := by
  rw [beq_eq_false_iff_ne]
  intro e
  apply h
  rw [Lib.toList_data, Lib.toList_data] at e
  exact ByteArray.ext (Array.toList_inj.1 e)
theorem dec_len {v : Nat} (h : v ≤ 999999) : Lib.decFrom 0 (Lib.decDigits v) = some v ∧ 1 ≤ (Lib.decDigits v).length ∧ (Lib.decDigits v).length ≤ 6 := ⟨decFrom_dec v, decDigits_six h⟩
theorem key_neg {s : ByteArray} {n : Int} {l : List UInt8} (h : isNum s n) (hl : s.data.toList = 45 :: l) : ∃ v : Nat, n = -(v : Int) ∧ Lib.decFrom 0 l = some v ∧ 1 ≤ l.length ∧ l.length ≤ 6 := by
  obtain ⟨h1, h2, h3⟩ := h
  by_cases hn : 0 ≤ n
  · obtain ⟨k, rfl⟩ := Int.eq_ofNat_of_zero_le hn
    rw [Lib.itoa_nonneg, hl] at h3
    obtain ⟨b, r, e, hb, -⟩ := decDigits_cons k
    rw [e] at h3
    injection h3 with h3
    exact absurd h3.symm hb
  · obtain ⟨k, hk⟩ := Int.eq_ofNat_of_zero_le (show 0 ≤ -n by omega)
    obtain rfl : n = -(k : Int) := by omega
    rw [Lib.itoa_neg k (by omega), hl] at h3
    injection h3 with _ h3
    subst h3
    exact ⟨k, rfl, dec_len (by omega)⟩
theorem key_pos {s : ByteArray} {n : Int} (h : isNum s n) (hl : ∀ l, s.data.toList = 45 :: l → l = []) : ∃ v : Nat, n = (v : Int) ∧ Lib.decFrom 0 s.data.toList = some v ∧ 1 ≤ s.data.toList.length ∧ s.data.toList.length ≤ 6 := by
  obtain ⟨h1, h2, h3⟩ := h
  by_cases hn : 0 ≤ n
  · obtain ⟨k, rfl⟩ := Int.eq_ofNat_of_zero_le hn
    rw [Lib.itoa_nonneg] at h3
    rw [h3]
    exact ⟨k, rfl, dec_len (by omega)⟩
  · obtain ⟨k, hk⟩ := Int.eq_ofNat_of_zero_le (show 0 ≤ -n by omega)
    obtain rfl : n = -(k : Int) := by omega
    rw [Lib.itoa_neg k (by omega)] at h3
    have := hl _ h3
    obtain ⟨b, r, e, -⟩ := decDigits_cons k
    rw [e] at this; cases this
theorem head_at {s : ByteArray} (h : 0 < s.size) : ∃ l, s.data.toList = s[0] :: l := by
  have := byte_data s 0 h
  cases hl : s.data.toList with
  | nil => rw [hl] at this; cases this
  | cons b l => rw [hl] at this; injection this with this; exact ⟨l, by rw [this]⟩

set_option maxHeartbeats 1600000 in
theorem l1Read_any (s : ByteArray) (w : World) (hmax : s.size ≤ 1048576) :
    Calls Tryd.prog 36 #[.string s] w fun e w' => e = .returned (.tuple #[.int .i64 (rnV s), .bool (rnB s)]) ∧ Below w.heap.size w w' := by
  by_cases hneg : ∃ h1 : 1 < s.size, s[0] = 45
  · obtain ⟨h1, h2⟩ := hneg
    obtain ⟨l, hl⟩ := head_at (s := s) (by omega)
    rw [h2] at hl
    obtain ⟨t, ht⟩ : ∃ t, t = s.extract 1 s.size := ⟨_, rfl⟩
    have hll : l.length = s.size - 1 := by have := data_len s; rw [hl, List.length_cons] at this; omega
    have htl : t.data.toList = l := by
      rw [ht, data_slice, hl, List.drop_succ_cons, List.drop_zero, List.take_of_length_le (by omega)]
    have hts : s.size - 1 = t.size := by rw [← hll, ← htl, data_len]
    have HK : Hid (∀ n, isNum s n → ∃ v : Nat, n = -(v : Int) ∧ Lib.decFrom 0 t.data.toList = some v ∧ 1 ≤ t.size ∧ t.size ≤ 6) := Lib.hid fun n h => by
      obtain ⟨v, a, b, c, d⟩ := key_neg h hl
      exact ⟨v, a, by rw [htl]; exact b, by omega, by omega⟩
    have htt := beq_t (b := s[0]) (c := 45) 45 rfl h2
    have h1I : (1 : Int) < (s.size : Int) := by omega
    have HS := Lib.hid hts
    by_cases h6 : s.size - 1 ≤ 6
    · have hlo : decide ((1 : Int) ≤ ((s.size - 1 : Nat) : Int)) = true := decide_eq_true (by omega)
      have hhi : decide (((s.size - 1 : Nat) : Int) ≤ 6) = true := decide_eq_true (by omega)
      have ht6 : t.size ≤ 6 := by omega
      have ht1 : 1 ≤ t.size := by omega
      have hss : s.size = t.size + 1 := by omega
      have HT := Lib.hid ht; have HSS := Lib.hid hss
      clear hl hll htl h2 hts ht hss
      go_enter Tryd.func36, Tryd.ntmps36
      go_wp2
      rw [← HT.out]
      have hss := HSS.out
      clear htt hlo hhi HT
      go_loopw [5, 6] (fun v5 v6 wr => wr = w ∧ ∃ (k m : Nat), v6 = .int .i64 k ∧ k ≤ t.size ∧ v5 = .int .i64 m ∧ Lib.decFrom 0 (t.data.toList.take k) = some m) (fun _ v6 _ => t.size - (intOf v6).toNat)
      case atStart => exact ⟨rfl, 0, 0, rfl, by omega, rfl, rfl⟩
      case round =>
        obtain ⟨hwr, k, m, rfl, hk, rfl, hdf⟩ := hrel
        subst hwr
        have hlk : (t.data.toList.take k).length = k := by rw [List.length_take, data_len]; omega
        have hm1 := Lib.decFrom_lt _ _ _ hdf
        rw [hlk] at hm1
        have hm6 : m < 1000000 := by
          have : (10 : Nat) ^ k ≤ 10 ^ 6 := Nat.pow_le_pow_right (by decide) (by omega)
          omega
        clear hlk hm1
        by_cases hlt : k < t.size
        · have hbb := data_at t k hlt
          have hltI : (k : Int) < (t.size : Int) := by omega
          by_cases hdg : 48 ≤ (t[k]).toNat ∧ (t[k]).toNat ≤ 57
          · obtain ⟨d1, d2⟩ := hdg
            have hdv : Lib.digitVal t[k] = some ((t[k]).toNat - 48) := if_pos ⟨d1, d2⟩
            have HN := Lib.hid (Lib.decFrom_take _ k 0 m _ _ hdf hbb hdv)
            have hlow : decide (((t[k]).toNat : Int) < 48) = false := decide_eq_false (by omega)
            have hhigh : decide (57 < ((t[k]).toNat : Int)) = false := decide_eq_false (by omega)
            obtain ⟨d, hdd⟩ : ∃ d : Nat, d = (t[k]).toNat - 48 := ⟨_, rfl⟩
            have hu8 : IntKind.u8.wrap (((t[k]).toNat : Int) - 48) = (d : Int) := by rw [IntKind.wrap_u8]; omega
            have hd9 : d ≤ 9 := by omega
            rw [← hdd] at HN
            clear hdf hbb hdv
            go_wp2
            go_roundw
            case rel => exact ⟨by trivial, k + 1, m * 10 + d, by go_num, by omega, by go_num, HN.out⟩
            case measure => simp [intOf]; omega
          · have hno : ∀ n, ¬ isNum s n := fun n h => by
              obtain ⟨v, -, hv, -⟩ := HK.out n h
              obtain ⟨d, hd⟩ := Lib.digit_of_decFrom _ _ _ hv k _ hbb
              have := Lib.digitVal_eq hd
              exact hdg ⟨this.1, this.2.1⟩
            obtain ⟨e1, e2⟩ := rn_no hno
            have E1 := Lib.hid e1; have E2 := Lib.hid e2
            clear hno e1 e2 hdf hbb
            by_cases hlo : (t[k]).toNat < 48
            · have hlow : decide (((t[k]).toNat : Int) < 48) = true := decide_eq_true (by omega)
              clear hdg hlo
              go_wp2
              go_ret2
              exact ⟨by rw [E1.out, E2.out]; rfl, Below.refl _ _⟩
            · have hlow : decide (((t[k]).toNat : Int) < 48) = false := decide_eq_false (by omega)
              have hhigh : decide (57 < ((t[k]).toNat : Int)) = true := decide_eq_true (by omega)
              clear hdg hlo
              go_wp2
              go_ret2
              exact ⟨by rw [E1.out, E2.out]; rfl, Below.refl _ _⟩
        · obtain rfl : k = t.size := by omega
          rw [List.take_of_length_le (by rw [data_len]; omega)] at hdf
          have HL := Lib.hid fun W => l1NumZ_any (-(m : Int)) W (by omega) (by omega)
          obtain ⟨t0, ht0⟩ : ∃ t0, t0 = str (Lib.itoa (-(m : Int))) := ⟨_, rfl⟩
          rw [← ht0] at HL
          by_cases hts : t0 = s
          · obtain ⟨e1, e2⟩ := rn_yes (s := s) (n := -(m : Int)) ⟨by omega, by omega, by rw [← hts, ht0]; rfl⟩
            have E1 := Lib.hid e1; have E2 := Lib.hid e2
            have hseq : (t0.toList == s.toList) = true := by rw [hts]; simp
            clear e1 e2 hdf ht0 hts
            go_wp2_with (go_at_call 56; (with_reducible refine (HL.out _).mono ?_); rintro e w1 ⟨rfl, q, rfl⟩)
            go_ret2
            exact ⟨by rw [E1.out, E2.out]; rfl, bdrew (Below.refl _ _) _⟩
          · have hno : ∀ n, ¬ isNum s n := fun n h => by
              obtain ⟨v, hv1, hv, -⟩ := HK.out n h
              rw [hdf] at hv
              injection hv with hv
              subst hv
              subst hv1
              exact hts (by rw [ht0]; exact (str_of s h.2.2).symm)
            obtain ⟨e1, e2⟩ := rn_no hno
            have E1 := Lib.hid e1; have E2 := Lib.hid e2
            have sne := bsne2 hts
            clear hno e1 e2 hdf ht0 hts
            go_wp2_with (go_at_call 56; (with_reducible refine (HL.out _).mono ?_); rintro e w1 ⟨rfl, q, rfl⟩)
            go_ret2
            exact ⟨by rw [E1.out, E2.out]; rfl, bdrew (Below.refl _ _) _⟩
    · obtain ⟨e1, e2⟩ := rn_no (s := s) (fun n h => by obtain ⟨v, -, -, -, d⟩ := HK.out n h; have := HS.out; omega)
      rw [e1, e2]
      have hhi : decide (((s.size - 1 : Nat) : Int) ≤ 6) = false := decide_eq_false (by omega)
      clear hl hll htl h2 hts e1 e2 ht
      go_enter Tryd.func36, Tryd.ntmps36
      go_wp2
      go_ret2
      exact ⟨rfl, Below.refl _ _⟩
  · have hpl : ∀ l, s.data.toList = 45 :: l → l = [] := fun l hl => by
      cases l with
      | nil => rfl
      | cons c r =>
        have hsz := data_len s
        rw [hl, List.length_cons, List.length_cons] at hsz
        have h0 := byte_data s 0 (by omega)
        rw [hl] at h0
        injection h0 with h0
        exact absurd ⟨by omega, h0.symm⟩ hneg
    have HK : Hid (∀ n, isNum s n → ∃ v : Nat, n = (v : Int) ∧ Lib.decFrom 0 s.data.toList = some v ∧ 1 ≤ s.size ∧ s.size ≤ 6) := Lib.hid fun n h => by
      obtain ⟨v, a, b, c, d⟩ := key_pos h hpl
      rw [data_len] at c d
      exact ⟨v, a, b, c, d⟩
    clear hpl
    by_cases h6 : 1 ≤ s.size ∧ s.size ≤ 6
    · obtain ⟨ht1, ht6⟩ := h6
      have hlo : decide ((1 : Int) ≤ (s.size : Int)) = true := decide_eq_true (by omega)
      have hhi : decide ((s.size : Int) ≤ 6) = true := decide_eq_true (by omega)
      by_cases h1 : 1 < s.size
      · have h2 : ¬ s[0] = 45 := fun e => hneg ⟨h1, e⟩
        have htt := beq_f (b := s[0]) (c := 45) 45 rfl h2
        have h1I : (1 : Int) < (s.size : Int) := by omega
        clear hneg h2
        go_enter Tryd.func36, Tryd.ntmps36
        go_wp2
        clear htt hlo hhi
        go_loopw [5, 6] (fun v5 v6 wr => wr = w ∧ ∃ (k m : Nat), v6 = .int .i64 k ∧ k ≤ s.size ∧ v5 = .int .i64 m ∧ Lib.decFrom 0 (s.data.toList.take k) = some m) (fun _ v6 _ => s.size - (intOf v6).toNat)
        case atStart => exact ⟨rfl, 0, 0, rfl, by omega, rfl, rfl⟩
        case round =>
          obtain ⟨hwr, k, m, rfl, hk, rfl, hdf⟩ := hrel
          subst hwr
          have hlk : (s.data.toList.take k).length = k := by rw [List.length_take, data_len]; omega
          have hm1 := Lib.decFrom_lt _ _ _ hdf
          rw [hlk] at hm1
          have hm6 : m < 1000000 := by
            have : (10 : Nat) ^ k ≤ 10 ^ 6 := Nat.pow_le_pow_right (by decide) (by omega)
            omega
          clear hlk hm1
          by_cases hlt : k < s.size
          · have hbb := data_at s k hlt
            have hltI : (k : Int) < (s.size : Int) := by omega
            by_cases hdg : 48 ≤ (s[k]).toNat ∧ (s[k]).toNat ≤ 57
            · obtain ⟨d1, d2⟩ := hdg
              have hdv : Lib.digitVal s[k] = some ((s[k]).toNat - 48) := if_pos ⟨d1, d2⟩
              have HN := Lib.hid (Lib.decFrom_take _ k 0 m _ _ hdf hbb hdv)
              have hlow : decide (((s[k]).toNat : Int) < 48) = false := decide_eq_false (by omega)
              have hhigh : decide (57 < ((s[k]).toNat : Int)) = false := decide_eq_false (by omega)
              obtain ⟨d, hdd⟩ : ∃ d : Nat, d = (s[k]).toNat - 48 := ⟨_, rfl⟩
              have hu8 : IntKind.u8.wrap (((s[k]).toNat : Int) - 48) = (d : Int) := by rw [IntKind.wrap_u8]; omega
              have hd9 : d ≤ 9 := by omega
              rw [← hdd] at HN
              clear hdf hbb hdv
              go_wp2
              go_roundw
              case rel => exact ⟨by trivial, k + 1, m * 10 + d, by go_num, by omega, by go_num, HN.out⟩
              case measure => simp [intOf]; omega
            · have hno : ∀ n, ¬ isNum s n := fun n h => by
                obtain ⟨v, -, hv, -⟩ := HK.out n h
                obtain ⟨d, hd⟩ := Lib.digit_of_decFrom _ _ _ hv k _ hbb
                have := Lib.digitVal_eq hd
                exact hdg ⟨this.1, this.2.1⟩
              obtain ⟨e1, e2⟩ := rn_no hno
              have E1 := Lib.hid e1; have E2 := Lib.hid e2
              clear hno e1 e2 hdf hbb
              by_cases hlo : (s[k]).toNat < 48
              · have hlow : decide (((s[k]).toNat : Int) < 48) = true := decide_eq_true (by omega)
                clear hdg hlo
                go_wp2
                go_ret2
                exact ⟨by rw [E1.out, E2.out]; rfl, Below.refl _ _⟩
              · have hlow : decide (((s[k]).toNat : Int) < 48) = false := decide_eq_false (by omega)
                have hhigh : decide (57 < ((s[k]).toNat : Int)) = true := decide_eq_true (by omega)
                clear hdg hlo
                go_wp2
                go_ret2
                exact ⟨by rw [E1.out, E2.out]; rfl, Below.refl _ _⟩
          · obtain rfl : k = s.size := by omega
            rw [List.take_of_length_le (by rw [data_len]; omega)] at hdf
            have HL := Lib.hid fun W => l1NumZ_any ((m : Int)) W (by omega) (by omega)
            obtain ⟨t0, ht0⟩ : ∃ t0, t0 = str (Lib.itoa ((m : Int))) := ⟨_, rfl⟩
            rw [← ht0] at HL
            by_cases hts : t0 = s
            · obtain ⟨e1, e2⟩ := rn_yes (s := s) (n := (m : Int)) ⟨by omega, by omega, by rw [← hts, ht0]; rfl⟩
              have E1 := Lib.hid e1; have E2 := Lib.hid e2
              have hseq : (t0.toList == s.toList) = true := by rw [hts]; simp
              clear e1 e2 hdf ht0 hts
              go_wp2_with (go_at_call 56; (with_reducible refine (HL.out _).mono ?_); rintro e w1 ⟨rfl, q, rfl⟩)
              go_ret2
              exact ⟨by rw [E1.out, E2.out]; rfl, bdrew (Below.refl _ _) _⟩
            · have hno : ∀ n, ¬ isNum s n := fun n h => by
                obtain ⟨v, hv1, hv, -⟩ := HK.out n h
                rw [hdf] at hv
                injection hv with hv
                subst hv
                subst hv1
                exact hts (by rw [ht0]; exact (str_of s h.2.2).symm)
              obtain ⟨e1, e2⟩ := rn_no hno
              have E1 := Lib.hid e1; have E2 := Lib.hid e2
              have sne := bsne2 hts
              clear hno e1 e2 hdf ht0 hts
              go_wp2_with (go_at_call 56; (with_reducible refine (HL.out _).mono ?_); rintro e w1 ⟨rfl, q, rfl⟩)
              go_ret2
              exact ⟨by rw [E1.out, E2.out]; rfl, bdrew (Below.refl _ _) _⟩
      · have h1I : ¬ (1 : Int) < (s.size : Int) := by omega
        clear hneg
        go_enter Tryd.func36, Tryd.ntmps36
        go_wp2
        clear hlo hhi
        go_loopw [5, 6] (fun v5 v6 wr => wr = w ∧ ∃ (k m : Nat), v6 = .int .i64 k ∧ k ≤ s.size ∧ v5 = .int .i64 m ∧ Lib.decFrom 0 (s.data.toList.take k) = some m) (fun _ v6 _ => s.size - (intOf v6).toNat)
        case atStart => exact ⟨rfl, 0, 0, rfl, by omega, rfl, rfl⟩
        case round =>
          obtain ⟨hwr, k, m, rfl, hk, rfl, hdf⟩ := hrel
          subst hwr
          have hlk : (s.data.toList.take k).length = k := by rw [List.length_take, data_len]; omega
          have hm1 := Lib.decFrom_lt _ _ _ hdf
          rw [hlk] at hm1
          have hm6 : m < 1000000 := by
            have : (10 : Nat) ^ k ≤ 10 ^ 6 := Nat.pow_le_pow_right (by decide) (by omega)
            omega
          clear hlk hm1
          by_cases hlt : k < s.size
          · have hbb := data_at s k hlt
            have hltI : (k : Int) < (s.size : Int) := by omega
            by_cases hdg : 48 ≤ (s[k]).toNat ∧ (s[k]).toNat ≤ 57
            · obtain ⟨d1, d2⟩ := hdg
              have hdv : Lib.digitVal s[k] = some ((s[k]).toNat - 48) := if_pos ⟨d1, d2⟩
              have HN := Lib.hid (Lib.decFrom_take _ k 0 m _ _ hdf hbb hdv)
              have hlow : decide (((s[k]).toNat : Int) < 48) = false := decide_eq_false (by omega)
              have hhigh : decide (57 < ((s[k]).toNat : Int)) = false := decide_eq_false (by omega)
              obtain ⟨d, hdd⟩ : ∃ d : Nat, d = (s[k]).toNat - 48 := ⟨_, rfl⟩
              have hu8 : IntKind.u8.wrap (((s[k]).toNat : Int) - 48) = (d : Int) := by rw [IntKind.wrap_u8]; omega
              have hd9 : d ≤ 9 := by omega
              rw [← hdd] at HN
              clear hdf hbb hdv
              go_wp2
              go_roundw
              case rel => exact ⟨by trivial, k + 1, m * 10 + d, by go_num, by omega, by go_num, HN.out⟩
              case measure => simp [intOf]; omega
            · have hno : ∀ n, ¬ isNum s n := fun n h => by
                obtain ⟨v, -, hv, -⟩ := HK.out n h
                obtain ⟨d, hd⟩ := Lib.digit_of_decFrom _ _ _ hv k _ hbb
                have := Lib.digitVal_eq hd
                exact hdg ⟨this.1, this.2.1⟩
              obtain ⟨e1, e2⟩ := rn_no hno
              have E1 := Lib.hid e1; have E2 := Lib.hid e2
              clear hno e1 e2 hdf hbb
              by_cases hlo : (s[k]).toNat < 48
              · have hlow : decide (((s[k]).toNat : Int) < 48) = true := decide_eq_true (by omega)
                clear hdg hlo
                go_wp2
                go_ret2
                exact ⟨by rw [E1.out, E2.out]; rfl, Below.refl _ _⟩
              · have hlow : decide (((s[k]).toNat : Int) < 48) = false := decide_eq_false (by omega)
                have hhigh : decide (57 < ((s[k]).toNat : Int)) = true := decide_eq_true (by omega)
                clear hdg hlo
                go_wp2
                go_ret2
                exact ⟨by rw [E1.out, E2.out]; rfl, Below.refl _ _⟩
          · obtain rfl : k = s.size := by omega
            rw [List.take_of_length_le (by rw [data_len]; omega)] at hdf
            have HL := Lib.hid fun W => l1NumZ_any ((m : Int)) W (by omega) (by omega)
            obtain ⟨t0, ht0⟩ : ∃ t0, t0 = str (Lib.itoa ((m : Int))) := ⟨_, rfl⟩
            rw [← ht0] at HL
            by_cases hts : t0 = s
            · obtain ⟨e1, e2⟩ := rn_yes (s := s) (n := (m : Int)) ⟨by omega, by omega, by rw [← hts, ht0]; rfl⟩
              have E1 := Lib.hid e1; have E2 := Lib.hid e2
              have hseq : (t0.toList == s.toList) = true := by rw [hts]; simp
              clear e1 e2 hdf ht0 hts
              go_wp2_with (go_at_call 56; (with_reducible refine (HL.out _).mono ?_); rintro e w1 ⟨rfl, q, rfl⟩)
              go_ret2
              exact ⟨by rw [E1.out, E2.out]; rfl, bdrew (Below.refl _ _) _⟩
            · have hno : ∀ n, ¬ isNum s n := fun n h => by
                obtain ⟨v, hv1, hv, -⟩ := HK.out n h
                rw [hdf] at hv
                injection hv with hv
                subst hv
                subst hv1
                exact hts (by rw [ht0]; exact (str_of s h.2.2).symm)
              obtain ⟨e1, e2⟩ := rn_no hno
              have E1 := Lib.hid e1; have E2 := Lib.hid e2
              have sne := bsne2 hts
              clear hno e1 e2 hdf ht0 hts
              go_wp2_with (go_at_call 56; (with_reducible refine (HL.out _).mono ?_); rintro e w1 ⟨rfl, q, rfl⟩)
              go_ret2
              exact ⟨by rw [E1.out, E2.out]; rfl, bdrew (Below.refl _ _) _⟩
    · obtain ⟨e1, e2⟩ := rn_no (s := s) (fun n h => by obtain ⟨v, -, -, c, d⟩ := HK.out n h; exact h6 ⟨c, d⟩)
      rw [e1, e2]
      by_cases h0 : s.size = 0
      · have hlo : decide ((1 : Int) ≤ (s.size : Int)) = false := decide_eq_false (by omega)
        have h1I : ¬ (1 : Int) < (s.size : Int) := by omega
        have H0 := Lib.hid h0
        clear hneg e1 e2 h6 h0
        go_enter Tryd.func36, Tryd.ntmps36
        go_wp2
        go_ret2
        exact ⟨rfl, Below.refl _ _⟩
      · have h1 : 1 < s.size := by omega
        have h2 : ¬ s[0] = 45 := fun e => hneg ⟨h1, e⟩
        have htt := beq_f (b := s[0]) (c := 45) 45 rfl h2
        have h1I : (1 : Int) < (s.size : Int) := by omega
        have hlo : decide ((1 : Int) ≤ (s.size : Int)) = true := decide_eq_true (by omega)
        have hhi : decide ((s.size : Int) ≤ 6) = false := decide_eq_false (by omega)
        clear hneg e1 e2 h6 h0 h2
        go_enter Tryd.func36, Tryd.ntmps36
        go_wp2
        go_ret2
        exact ⟨rfl, Below.refl _ _⟩
end Go.Proofs.YtpepkpikeggceaaDoor
