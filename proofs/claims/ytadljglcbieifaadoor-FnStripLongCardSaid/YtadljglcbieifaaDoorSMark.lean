/- The moves of strips of the kinds 1 to 3: the reference's, by contracts. Conditions: none. -/
import Derived.Test.YtadljglcbieifaaDoorSFrog
namespace Go.Proofs.YtadljglcbieifaaDoor
open Go.RowKit
set_option linter.unusedVariables false

set_option maxRecDepth 100000 in
set_option maxHeartbeats 1600000 in
theorem movesS2L_any (s : ByteArray) (w : World) (hs : s.size ≤ 12) :
    Calls Tryd.prog 154 #[.int .i64 2, .string s, .bool true] w (RetS w (acc (markAt 76 76 s) s.size)) := by
  have hs6 : s.size ≤ 1000000 := by omega
  have l76 : ((⟨#[76]⟩ : ByteArray)[0]'(by decide)).toNat = 76 := rfl
  have l82 : ((⟨#[82]⟩ : ByteArray)[0]'(by decide)).toNat = 82 := rfl
  go_enter Tryd.func154, Tryd.ntmps154
  go_wp2
  go_loopw [7, 10] (fun v i wr => ∃ (k n : Nat) (A : Option Addr) (c : Nat), i = .int .i64 k ∧ k ≤ s.size ∧ v = .slice A n c ∧ n = (acc (markAt 76 76 s) k).length ∧ Own wr w.heap.size 9 (.slice A n c) (scells (acc (markAt 76 76 s) k)) ∧ Below w.heap.size w wr) (fun _ i _ => s.size - (intOf i).toNat)
  case atStart => exact ⟨0, 0, _, _, rfl, by omega, rfl, rfl, Own.empty _ 9 _ _ (Nat.le_refl _), (Below.refl _ _).alloc (Nat.le_refl _) _⟩
  case round =>
    obtain ⟨k, n, A, c, rfl, hk, rfl, hn, ho, hb⟩ := hrel
    have hle := acc_le (markAt 76 76 s) 1 (markAt_le _ _ s) k
    rw [← hn] at hle
    have HN : Hid ((acc (markAt 76 76 s) k).length = n) := hn.symm
    clear hn
    have hzr := hb.size
    by_cases hlt : k < s.size
    · have HC := Lib.hid (cellv_in hlt)
      by_cases c0 : s[k] = 46
      · have t0 := beq_t 46 rfl c0
        have H0 : Hid (cellv s k = 46) := by show _ = _; rw [HC.out]; exact c0
        clear c0
        by_cases c1 : cellv s ((k : Int) - 1) = 76
        · have t1 : isB s ((k : Int) - 1) 76 = true := by rw [isB_eq (by decide)]; simp [c1]
          have HF : Hid ((markAt 76 76 s) k = []) := by show markAt _ _ _ _ = _; rw [markAt, if_neg fun h => h.2.1 c1]
          have HO := Lib.hid ho; clear ho c1
          go_wp2_with (go_at_call 196; (with_reducible refine (is76_any s _ _ hs6).mono ?_); rintro e w1 ⟨rfl, rfl⟩)
          go_roundw
          case rel => exact ⟨k + 1, n, A, c, by go_num, by omega, rfl, by rw [← acc_nil HF.out, HN.out], by rw [← acc_nil HF.out]; exact HO.out, hb⟩
          case measure => simp [intOf]; omega

        · have t1 : isB s ((k : Int) - 1) 76 = false := by rw [isB_eq (by decide)]; simp [c1]
          by_cases c2 : cellv s ((k : Int) + 1) = 76
          · have t2 : isB s ((k : Int) + 1) 76 = true := by rw [isB_eq (by decide)]; simp [c2]
            have HF : Hid ((markAt 76 76 s) k = []) := by show markAt _ _ _ _ = _; rw [markAt, if_neg fun h => h.2.2 c2]
            have HO := Lib.hid ho; clear ho c1 c2
            go_wp2_with (go_at_call 196; (with_reducible refine (is76_any s _ _ hs6).mono ?_); rintro e w1 ⟨rfl, rfl⟩)
            go_roundw
            case rel => exact ⟨k + 1, n, A, c, by go_num, by omega, rfl, by rw [← acc_nil HF.out, HN.out], by rw [← acc_nil HF.out]; exact HO.out, hb⟩
            case measure => simp [intOf]; omega

          · have t2 : isB s ((k : Int) + 1) 76 = false := by rw [isB_eq (by decide)]; simp [c2]
            have HF : Hid ((markAt 76 76 s) k = [str (s.data.toList.set k 76)]) := by show markAt _ _ _ _ = _; rw [markAt, if_pos ⟨H0.out, c1, c2⟩]
            clear c1 c2
            have hset := fun wx => setS_any s ⟨#[76]⟩ k 76 wx (by omega) (by omega) (by omega) rfl (by decide)
            rw [Int.toNat_natCast] at hset
            obtain ⟨r, hr⟩ : ∃ r, r = str (s.data.toList.set k 76) := ⟨_, rfl⟩
            rw [← hr] at hset HF
            have HS := Lib.hid hset; clear hset hr
            go_wp2_with (first | (go_at_call 196; (with_reducible refine (is76_any s _ _ hs6).mono ?_); rintro e w1 ⟨rfl, rfl⟩) | (go_at_call 197; (with_reducible refine (HS.out _).mono ?_); rintro e w2 ⟨rfl, hb2⟩; have hz2 := hb2.size; have ho := ho.below hb2) | (at_builtin; refine append_str rfl _ _ rfl w.heap.size _ (acc (markAt 76 76 s) k) rfl (ho.below ((Below.refl _ _).alloc (Nat.le_refl _) _)) _ r rfl ((Blk.new _ _ _).cell 0) (by rw [HN.out]; omega) (by simp; omega) ?_; intro A2 c2 w3 ho3 hb3 hg3; rw [HN.out] at ho3 ⊢))
            go_roundw
            case rel => exact ⟨k + 1, n + 1, A2, c2, by go_num, by omega, rfl, by rw [acc_succ, HF.out, List.length_append, HN.out]; rfl, own_snoc ho3 HF.out, hb.trans ((hb2.mono hzr).trans (((Below.refl _ _).alloc (Nat.le_trans hzr hz2) _).trans hb3))⟩
            case measure => simp [intOf]; omega
      · have t0 := beq_f 46 rfl c0
        have HF : Hid ((markAt 76 76 s) k = []) := by show markAt _ _ _ _ = _; rw [markAt, if_neg fun h => c0 (by rw [← HC.out]; exact h.1)]
        have HO := Lib.hid ho; clear ho c0
        go_wp2_with (go_at_call 196; (with_reducible refine (is76_any s _ _ hs6).mono ?_); rintro e w1 ⟨rfl, rfl⟩)
        go_roundw
        case rel => exact ⟨k + 1, n, A, c, by go_num, by omega, rfl, by rw [← acc_nil HF.out, HN.out], by rw [← acc_nil HF.out]; exact HO.out, hb⟩
        case measure => simp [intOf]; omega

    · obtain rfl : k = s.size := by omega
      have HO := Lib.hid ho; clear ho
      go_wp2
      go_ret
      exact RetS.mk HO.out HN.out.symm hb

set_option maxRecDepth 100000 in
set_option maxHeartbeats 1600000 in
theorem movesS2R_any (s : ByteArray) (w : World) (hs : s.size ≤ 12) :
    Calls Tryd.prog 154 #[.int .i64 2, .string s, .bool false] w (RetS w (acc (markAt 82 82 s) s.size)) := by
  have hs6 : s.size ≤ 1000000 := by omega
  have l76 : ((⟨#[76]⟩ : ByteArray)[0]'(by decide)).toNat = 76 := rfl
  have l82 : ((⟨#[82]⟩ : ByteArray)[0]'(by decide)).toNat = 82 := rfl
  go_enter Tryd.func154, Tryd.ntmps154
  go_wp2
  go_loopw [7, 10] (fun v i wr => ∃ (k n : Nat) (A : Option Addr) (c : Nat), i = .int .i64 k ∧ k ≤ s.size ∧ v = .slice A n c ∧ n = (acc (markAt 82 82 s) k).length ∧ Own wr w.heap.size 9 (.slice A n c) (scells (acc (markAt 82 82 s) k)) ∧ Below w.heap.size w wr) (fun _ i _ => s.size - (intOf i).toNat)
  case atStart => exact ⟨0, 0, _, _, rfl, by omega, rfl, rfl, Own.empty _ 9 _ _ (Nat.le_refl _), (Below.refl _ _).alloc (Nat.le_refl _) _⟩
  case round =>
    obtain ⟨k, n, A, c, rfl, hk, rfl, hn, ho, hb⟩ := hrel
    have hle := acc_le (markAt 82 82 s) 1 (markAt_le _ _ s) k
    rw [← hn] at hle
    have HN : Hid ((acc (markAt 82 82 s) k).length = n) := hn.symm
    clear hn
    have hzr := hb.size
    by_cases hlt : k < s.size
    · have HC := Lib.hid (cellv_in hlt)
      by_cases c0 : s[k] = 46
      · have t0 := beq_t 46 rfl c0
        have H0 : Hid (cellv s k = 46) := by show _ = _; rw [HC.out]; exact c0
        clear c0
        by_cases c1 : cellv s ((k : Int) - 1) = 82
        · have t1 : isB s ((k : Int) - 1) 82 = true := by rw [isB_eq (by decide)]; simp [c1]
          have HF : Hid ((markAt 82 82 s) k = []) := by show markAt _ _ _ _ = _; rw [markAt, if_neg fun h => h.2.1 c1]
          have HO := Lib.hid ho; clear ho c1
          go_wp2_with (go_at_call 196; (with_reducible refine (is82_any s _ _ hs6).mono ?_); rintro e w1 ⟨rfl, rfl⟩)
          go_roundw
          case rel => exact ⟨k + 1, n, A, c, by go_num, by omega, rfl, by rw [← acc_nil HF.out, HN.out], by rw [← acc_nil HF.out]; exact HO.out, hb⟩
          case measure => simp [intOf]; omega

        · have t1 : isB s ((k : Int) - 1) 82 = false := by rw [isB_eq (by decide)]; simp [c1]
          by_cases c2 : cellv s ((k : Int) + 1) = 82
          · have t2 : isB s ((k : Int) + 1) 82 = true := by rw [isB_eq (by decide)]; simp [c2]
            have HF : Hid ((markAt 82 82 s) k = []) := by show markAt _ _ _ _ = _; rw [markAt, if_neg fun h => h.2.2 c2]
            have HO := Lib.hid ho; clear ho c1 c2
            go_wp2_with (go_at_call 196; (with_reducible refine (is82_any s _ _ hs6).mono ?_); rintro e w1 ⟨rfl, rfl⟩)
            go_roundw
            case rel => exact ⟨k + 1, n, A, c, by go_num, by omega, rfl, by rw [← acc_nil HF.out, HN.out], by rw [← acc_nil HF.out]; exact HO.out, hb⟩
            case measure => simp [intOf]; omega

          · have t2 : isB s ((k : Int) + 1) 82 = false := by rw [isB_eq (by decide)]; simp [c2]
            have HF : Hid ((markAt 82 82 s) k = [str (s.data.toList.set k 82)]) := by show markAt _ _ _ _ = _; rw [markAt, if_pos ⟨H0.out, c1, c2⟩]
            clear c1 c2
            have hset := fun wx => setS_any s ⟨#[82]⟩ k 82 wx (by omega) (by omega) (by omega) rfl (by decide)
            rw [Int.toNat_natCast] at hset
            obtain ⟨r, hr⟩ : ∃ r, r = str (s.data.toList.set k 82) := ⟨_, rfl⟩
            rw [← hr] at hset HF
            have HS := Lib.hid hset; clear hset hr
            go_wp2_with (first | (go_at_call 196; (with_reducible refine (is82_any s _ _ hs6).mono ?_); rintro e w1 ⟨rfl, rfl⟩) | (go_at_call 197; (with_reducible refine (HS.out _).mono ?_); rintro e w2 ⟨rfl, hb2⟩; have hz2 := hb2.size; have ho := ho.below hb2) | (at_builtin; refine append_str rfl _ _ rfl w.heap.size _ (acc (markAt 82 82 s) k) rfl (ho.below ((Below.refl _ _).alloc (Nat.le_refl _) _)) _ r rfl ((Blk.new _ _ _).cell 0) (by rw [HN.out]; omega) (by simp; omega) ?_; intro A2 c2 w3 ho3 hb3 hg3; rw [HN.out] at ho3 ⊢))
            go_roundw
            case rel => exact ⟨k + 1, n + 1, A2, c2, by go_num, by omega, rfl, by rw [acc_succ, HF.out, List.length_append, HN.out]; rfl, own_snoc ho3 HF.out, hb.trans ((hb2.mono hzr).trans (((Below.refl _ _).alloc (Nat.le_trans hzr hz2) _).trans hb3))⟩
            case measure => simp [intOf]; omega
      · have t0 := beq_f 46 rfl c0
        have HF : Hid ((markAt 82 82 s) k = []) := by show markAt _ _ _ _ = _; rw [markAt, if_neg fun h => c0 (by rw [← HC.out]; exact h.1)]
        have HO := Lib.hid ho; clear ho c0
        go_wp2_with (go_at_call 196; (with_reducible refine (is82_any s _ _ hs6).mono ?_); rintro e w1 ⟨rfl, rfl⟩)
        go_roundw
        case rel => exact ⟨k + 1, n, A, c, by go_num, by omega, rfl, by rw [← acc_nil HF.out, HN.out], by rw [← acc_nil HF.out]; exact HO.out, hb⟩
        case measure => simp [intOf]; omega

    · obtain rfl : k = s.size := by omega
      have HO := Lib.hid ho; clear ho
      go_wp2
      go_ret
      exact RetS.mk HO.out HN.out.symm hb

set_option maxRecDepth 100000 in
set_option maxHeartbeats 1600000 in
theorem movesS3L_any (s : ByteArray) (w : World) (hs : s.size ≤ 12) :
    Calls Tryd.prog 154 #[.int .i64 3, .string s, .bool true] w (RetS w (acc (markAt 76 82 s) s.size)) := by
  have hs6 : s.size ≤ 1000000 := by omega
  have l76 : ((⟨#[76]⟩ : ByteArray)[0]'(by decide)).toNat = 76 := rfl
  have l82 : ((⟨#[82]⟩ : ByteArray)[0]'(by decide)).toNat = 82 := rfl
  go_enter Tryd.func154, Tryd.ntmps154
  go_wp2
  go_loopw [7, 10] (fun v i wr => ∃ (k n : Nat) (A : Option Addr) (c : Nat), i = .int .i64 k ∧ k ≤ s.size ∧ v = .slice A n c ∧ n = (acc (markAt 76 82 s) k).length ∧ Own wr w.heap.size 9 (.slice A n c) (scells (acc (markAt 76 82 s) k)) ∧ Below w.heap.size w wr) (fun _ i _ => s.size - (intOf i).toNat)
  case atStart => exact ⟨0, 0, _, _, rfl, by omega, rfl, rfl, Own.empty _ 9 _ _ (Nat.le_refl _), (Below.refl _ _).alloc (Nat.le_refl _) _⟩
  case round =>
    obtain ⟨k, n, A, c, rfl, hk, rfl, hn, ho, hb⟩ := hrel
    have hle := acc_le (markAt 76 82 s) 1 (markAt_le _ _ s) k
    rw [← hn] at hle
    have HN : Hid ((acc (markAt 76 82 s) k).length = n) := hn.symm
    clear hn
    have hzr := hb.size
    by_cases hlt : k < s.size
    · have HC := Lib.hid (cellv_in hlt)
      by_cases c0 : s[k] = 46
      · have t0 := beq_t 46 rfl c0
        have H0 : Hid (cellv s k = 46) := by show _ = _; rw [HC.out]; exact c0
        clear c0
        by_cases c1 : cellv s ((k : Int) - 1) = 82
        · have t1 : isB s ((k : Int) - 1) 82 = true := by rw [isB_eq (by decide)]; simp [c1]
          have HF : Hid ((markAt 76 82 s) k = []) := by show markAt _ _ _ _ = _; rw [markAt, if_neg fun h => h.2.1 c1]
          have HO := Lib.hid ho; clear ho c1
          go_wp2_with (go_at_call 196; (with_reducible refine (is82_any s _ _ hs6).mono ?_); rintro e w1 ⟨rfl, rfl⟩)
          go_roundw
          case rel => exact ⟨k + 1, n, A, c, by go_num, by omega, rfl, by rw [← acc_nil HF.out, HN.out], by rw [← acc_nil HF.out]; exact HO.out, hb⟩
          case measure => simp [intOf]; omega

        · have t1 : isB s ((k : Int) - 1) 82 = false := by rw [isB_eq (by decide)]; simp [c1]
          by_cases c2 : cellv s ((k : Int) + 1) = 82
          · have t2 : isB s ((k : Int) + 1) 82 = true := by rw [isB_eq (by decide)]; simp [c2]
            have HF : Hid ((markAt 76 82 s) k = []) := by show markAt _ _ _ _ = _; rw [markAt, if_neg fun h => h.2.2 c2]
            have HO := Lib.hid ho; clear ho c1 c2
            go_wp2_with (go_at_call 196; (with_reducible refine (is82_any s _ _ hs6).mono ?_); rintro e w1 ⟨rfl, rfl⟩)
            go_roundw
            case rel => exact ⟨k + 1, n, A, c, by go_num, by omega, rfl, by rw [← acc_nil HF.out, HN.out], by rw [← acc_nil HF.out]; exact HO.out, hb⟩
            case measure => simp [intOf]; omega

          · have t2 : isB s ((k : Int) + 1) 82 = false := by rw [isB_eq (by decide)]; simp [c2]
            have HF : Hid ((markAt 76 82 s) k = [str (s.data.toList.set k 76)]) := by show markAt _ _ _ _ = _; rw [markAt, if_pos ⟨H0.out, c1, c2⟩]
            clear c1 c2
            have hset := fun wx => setS_any s ⟨#[76]⟩ k 76 wx (by omega) (by omega) (by omega) rfl (by decide)
            rw [Int.toNat_natCast] at hset
            obtain ⟨r, hr⟩ : ∃ r, r = str (s.data.toList.set k 76) := ⟨_, rfl⟩
            rw [← hr] at hset HF
            have HS := Lib.hid hset; clear hset hr
            go_wp2_with (first | (go_at_call 196; (with_reducible refine (is82_any s _ _ hs6).mono ?_); rintro e w1 ⟨rfl, rfl⟩) | (go_at_call 197; (with_reducible refine (HS.out _).mono ?_); rintro e w2 ⟨rfl, hb2⟩; have hz2 := hb2.size; have ho := ho.below hb2) | (at_builtin; refine append_str rfl _ _ rfl w.heap.size _ (acc (markAt 76 82 s) k) rfl (ho.below ((Below.refl _ _).alloc (Nat.le_refl _) _)) _ r rfl ((Blk.new _ _ _).cell 0) (by rw [HN.out]; omega) (by simp; omega) ?_; intro A2 c2 w3 ho3 hb3 hg3; rw [HN.out] at ho3 ⊢))
            go_roundw
            case rel => exact ⟨k + 1, n + 1, A2, c2, by go_num, by omega, rfl, by rw [acc_succ, HF.out, List.length_append, HN.out]; rfl, own_snoc ho3 HF.out, hb.trans ((hb2.mono hzr).trans (((Below.refl _ _).alloc (Nat.le_trans hzr hz2) _).trans hb3))⟩
            case measure => simp [intOf]; omega
      · have t0 := beq_f 46 rfl c0
        have HF : Hid ((markAt 76 82 s) k = []) := by show markAt _ _ _ _ = _; rw [markAt, if_neg fun h => c0 (by rw [← HC.out]; exact h.1)]
        have HO := Lib.hid ho; clear ho c0
        go_wp2_with (go_at_call 196; (with_reducible refine (is82_any s _ _ hs6).mono ?_); rintro e w1 ⟨rfl, rfl⟩)
        go_roundw
        case rel => exact ⟨k + 1, n, A, c, by go_num, by omega, rfl, by rw [← acc_nil HF.out, HN.out], by rw [← acc_nil HF.out]; exact HO.out, hb⟩
        case measure => simp [intOf]; omega

    · obtain rfl : k = s.size := by omega
      have HO := Lib.hid ho; clear ho
      go_wp2
      go_ret
      exact RetS.mk HO.out HN.out.symm hb

set_option maxRecDepth 100000 in
set_option maxHeartbeats 1600000 in
theorem movesS3R_any (s : ByteArray) (w : World) (hs : s.size ≤ 12) :
    Calls Tryd.prog 154 #[.int .i64 3, .string s, .bool false] w (RetS w (acc (markAt 82 76 s) s.size)) := by
  have hs6 : s.size ≤ 1000000 := by omega
  have l76 : ((⟨#[76]⟩ : ByteArray)[0]'(by decide)).toNat = 76 := rfl
  have l82 : ((⟨#[82]⟩ : ByteArray)[0]'(by decide)).toNat = 82 := rfl
  go_enter Tryd.func154, Tryd.ntmps154
  go_wp2
  go_loopw [7, 10] (fun v i wr => ∃ (k n : Nat) (A : Option Addr) (c : Nat), i = .int .i64 k ∧ k ≤ s.size ∧ v = .slice A n c ∧ n = (acc (markAt 82 76 s) k).length ∧ Own wr w.heap.size 9 (.slice A n c) (scells (acc (markAt 82 76 s) k)) ∧ Below w.heap.size w wr) (fun _ i _ => s.size - (intOf i).toNat)
  case atStart => exact ⟨0, 0, _, _, rfl, by omega, rfl, rfl, Own.empty _ 9 _ _ (Nat.le_refl _), (Below.refl _ _).alloc (Nat.le_refl _) _⟩
  case round =>
    obtain ⟨k, n, A, c, rfl, hk, rfl, hn, ho, hb⟩ := hrel
    have hle := acc_le (markAt 82 76 s) 1 (markAt_le _ _ s) k
    rw [← hn] at hle
    have HN : Hid ((acc (markAt 82 76 s) k).length = n) := hn.symm
    clear hn
    have hzr := hb.size
    by_cases hlt : k < s.size
    · have HC := Lib.hid (cellv_in hlt)
      by_cases c0 : s[k] = 46
      · have t0 := beq_t 46 rfl c0
        have H0 : Hid (cellv s k = 46) := by show _ = _; rw [HC.out]; exact c0
        clear c0
        by_cases c1 : cellv s ((k : Int) - 1) = 76
        · have t1 : isB s ((k : Int) - 1) 76 = true := by rw [isB_eq (by decide)]; simp [c1]
          have HF : Hid ((markAt 82 76 s) k = []) := by show markAt _ _ _ _ = _; rw [markAt, if_neg fun h => h.2.1 c1]
          have HO := Lib.hid ho; clear ho c1
          go_wp2_with (go_at_call 196; (with_reducible refine (is76_any s _ _ hs6).mono ?_); rintro e w1 ⟨rfl, rfl⟩)
          go_roundw
          case rel => exact ⟨k + 1, n, A, c, by go_num, by omega, rfl, by rw [← acc_nil HF.out, HN.out], by rw [← acc_nil HF.out]; exact HO.out, hb⟩
          case measure => simp [intOf]; omega

        · have t1 : isB s ((k : Int) - 1) 76 = false := by rw [isB_eq (by decide)]; simp [c1]
          by_cases c2 : cellv s ((k : Int) + 1) = 76
          · have t2 : isB s ((k : Int) + 1) 76 = true := by rw [isB_eq (by decide)]; simp [c2]
            have HF : Hid ((markAt 82 76 s) k = []) := by show markAt _ _ _ _ = _; rw [markAt, if_neg fun h => h.2.2 c2]
            have HO := Lib.hid ho; clear ho c1 c2
            go_wp2_with (go_at_call 196; (with_reducible refine (is76_any s _ _ hs6).mono ?_); rintro e w1 ⟨rfl, rfl⟩)
            go_roundw
            case rel => exact ⟨k + 1, n, A, c, by go_num, by omega, rfl, by rw [← acc_nil HF.out, HN.out], by rw [← acc_nil HF.out]; exact HO.out, hb⟩
            case measure => simp [intOf]; omega

          · have t2 : isB s ((k : Int) + 1) 76 = false := by rw [isB_eq (by decide)]; simp [c2]
            have HF : Hid ((markAt 82 76 s) k = [str (s.data.toList.set k 82)]) := by show markAt _ _ _ _ = _; rw [markAt, if_pos ⟨H0.out, c1, c2⟩]
            clear c1 c2
            have hset := fun wx => setS_any s ⟨#[82]⟩ k 82 wx (by omega) (by omega) (by omega) rfl (by decide)
            rw [Int.toNat_natCast] at hset
            obtain ⟨r, hr⟩ : ∃ r, r = str (s.data.toList.set k 82) := ⟨_, rfl⟩
            rw [← hr] at hset HF
            have HS := Lib.hid hset; clear hset hr
            go_wp2_with (first | (go_at_call 196; (with_reducible refine (is76_any s _ _ hs6).mono ?_); rintro e w1 ⟨rfl, rfl⟩) | (go_at_call 197; (with_reducible refine (HS.out _).mono ?_); rintro e w2 ⟨rfl, hb2⟩; have hz2 := hb2.size; have ho := ho.below hb2) | (at_builtin; refine append_str rfl _ _ rfl w.heap.size _ (acc (markAt 82 76 s) k) rfl (ho.below ((Below.refl _ _).alloc (Nat.le_refl _) _)) _ r rfl ((Blk.new _ _ _).cell 0) (by rw [HN.out]; omega) (by simp; omega) ?_; intro A2 c2 w3 ho3 hb3 hg3; rw [HN.out] at ho3 ⊢))
            go_roundw
            case rel => exact ⟨k + 1, n + 1, A2, c2, by go_num, by omega, rfl, by rw [acc_succ, HF.out, List.length_append, HN.out]; rfl, own_snoc ho3 HF.out, hb.trans ((hb2.mono hzr).trans (((Below.refl _ _).alloc (Nat.le_trans hzr hz2) _).trans hb3))⟩
            case measure => simp [intOf]; omega
      · have t0 := beq_f 46 rfl c0
        have HF : Hid ((markAt 82 76 s) k = []) := by show markAt _ _ _ _ = _; rw [markAt, if_neg fun h => c0 (by rw [← HC.out]; exact h.1)]
        have HO := Lib.hid ho; clear ho c0
        go_wp2_with (go_at_call 196; (with_reducible refine (is76_any s _ _ hs6).mono ?_); rintro e w1 ⟨rfl, rfl⟩)
        go_roundw
        case rel => exact ⟨k + 1, n, A, c, by go_num, by omega, rfl, by rw [← acc_nil HF.out, HN.out], by rw [← acc_nil HF.out]; exact HO.out, hb⟩
        case measure => simp [intOf]; omega

    · obtain rfl : k = s.size := by omega
      have HO := Lib.hid ho; clear ho
      go_wp2
      go_ret
      exact RetS.mk HO.out HN.out.symm hb
end Go.Proofs.YtadljglcbieifaaDoor
