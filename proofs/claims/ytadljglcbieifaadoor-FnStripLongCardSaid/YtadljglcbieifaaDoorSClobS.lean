/- The moves of Clobber: the reference's, by contracts. Conditions: none. -/
import Derived.Test.YtadljglcbieifaaDoorSFrog
namespace Go.Proofs.YtadljglcbieifaaDoor
open Go.RowKit
set_option linter.unusedVariables false

set_option maxRecDepth 100000 in
set_option maxHeartbeats 3200000 in
theorem movesS1L_any (s : ByteArray) (w : World) (hs : s.size ≤ 12) :
    Calls Tryd.prog 154 #[.int .i64 1, .string s, .bool true] w (RetS w (acc (clobBoth 76 82 s) s.size)) := by
  have hs6 : s.size ≤ 1000000 := by omega
  have l76 : ((⟨#[76]⟩ : ByteArray)[0]'(by decide)).toNat = 76 := rfl
  have l82 : ((⟨#[82]⟩ : ByteArray)[0]'(by decide)).toNat = 82 := rfl
  go_enter Tryd.func154, Tryd.ntmps154
  go_wp2
  go_loopw [7, 10, 11] (fun v i z wr => ∃ (k n : Nat) (A : Option Addr) (c : Nat), i = .int .i64 k ∧ k ≤ s.size ∧ v = .slice A n c ∧ n = (acc (clobBoth 76 82 s) k).length ∧ Own wr w.heap.size 9 (.slice A n c) (scells (acc (clobBoth 76 82 s) k)) ∧ Below w.heap.size w wr) (fun _ i _ _ => s.size - (intOf i).toNat)
  case atStart => exact ⟨0, 0, _, _, rfl, by omega, rfl, rfl, Own.empty _ 9 _ _ (Nat.le_refl _), (Below.refl _ _).alloc (Nat.le_refl _) _⟩
  case round =>
    obtain ⟨k, n, A, c, rfl, hk, rfl, hn, ho, hb⟩ := hrel
    obtain ⟨wo, rfl⟩ : ∃ wo : World, wo = wr := ⟨_, rfl⟩
    by_cases hlt : k < s.size
    · have HC := Lib.hid (cellv_in hlt)
      have HN := Lib.hid hn; have HO := Lib.hid ho; clear hn ho
      go_wp2
      go_loopw [7, 11] (fun v y wr => ∃ (j n : Nat) (A : Option Addr) (c : Nat), (j = 0 ∧ y = .int .i64 (-1) ∨ j = 1 ∧ y = .int .i64 1 ∨ j = 2 ∧ y = .int .i64 3) ∧ v = .slice A n c ∧ n = (part 76 82 s k j).length ∧ Own wr w.heap.size 9 (.slice A n c) (scells (part 76 82 s k j)) ∧ Below w.heap.size w wr) (fun _ y _ => (3 - (match y with | .int _ m => m | _ => 0) : Int).toNat)
      case atStart => exact ⟨0, n, A, c, .inl ⟨rfl, rfl⟩, rfl, by rw [part0]; exact HN.out, by rw [part0]; exact HO.out, hb⟩
      case round =>
        clear HN HO hb
        obtain ⟨j, n, A, c, hj, rfl, hn, ho, hb⟩ := hrel
        have hle := part_le 76 82 s k j
        rw [← hn] at hle
        have HN : Hid ((part 76 82 s k j).length = n) := hn.symm
        clear hn
        have hzr := hb.size
        rcases hj with ⟨rfl, rfl⟩ | ⟨rfl, rfl⟩ | ⟨rfl, rfl⟩
        · have hp : (part 76 82 s k (0 + 1)) = (part 76 82 s k 0) ++ clobAt 76 82 ((k : Int) - 1) s k := part1 _ _ _ _
          have HP := Lib.hid hp; clear hp
          by_cases c0 : s[k] = 76
          · have t0 := beq_t 76 rfl c0
            have H0 : Hid (cellv s k = 76) := by show _ = _; rw [HC.out]; exact c0
            by_cases c1 : cellv s ((k : Int) + -1) = 82
            · have t1 : isB s ((k : Int) + -1) 82 = true := by rw [isB_eq (by decide)]; simp [c1]
              obtain ⟨hr1, hr2⟩ := cellv_pos c1 (by decide)
              have HF : Hid (clobAt 76 82 ((k : Int) - 1) s k = [str ((s.data.toList.set k 46).set ((k : Int) + -1).toNat 76)]) := clobAt_yes H0.out c1
              clear c0 c1
              have hset1 := fun wx => setS_any s ⟨#[46]⟩ k 46 wx (by omega) (by omega) (by omega) dot1 (by decide)
              obtain ⟨p, hp⟩ : ∃ p, p = str (s.data.toList.set k 46) := ⟨_, rfl⟩
              have hpz : p.size = s.size := by rw [hp, str_size, List.length_set, data_len]
              have hset2 := fun wx => setS_any p ⟨#[76]⟩ ((k : Int) + -1) 76 wx (by omega) (by omega) (by omega) rfl (by decide)
              rw [Int.toNat_natCast, ← hp] at hset1
              obtain ⟨r, hr⟩ : ∃ r, r = str ((s.data.toList.set k 46).set ((k : Int) + -1).toNat 76) := ⟨_, rfl⟩
              have hpd : p.data.toList = s.data.toList.set k 46 := by rw [hp]; rfl
              rw [hpd, ← hr] at hset2
              rw [← hr] at HF
              have HS1 := Lib.hid hset1; have HS2 := Lib.hid hset2; clear hset1 hset2 hr hp hpd hpz
              go_wp2
              go_quiet (fail)
              have ho := ho.below (bdrew (Below.refl _ _) nq)
              go_wp2_with (first | (go_at_call 196; (with_reducible refine (is82_any s _ _ hs6).mono ?_); rintro e w1 ⟨rfl, rfl⟩) | (go_at_call 197; (with_reducible refine (HS1.out _).mono ?_); rintro e w2 ⟨rfl, hb2⟩; have hz2 : wr.heap.size ≤ w2.heap.size := hb2.size; have ho := ho.below hb2) | (go_at_call 197; (with_reducible refine (HS2.out _).mono ?_); rintro e w3 ⟨rfl, hb3⟩; have hz3 := hb3.size; have ho := ho.below hb3) | (at_builtin; refine append_str rfl _ _ rfl w.heap.size _ (part 76 82 s k 0) rfl (ho.below ((Below.refl _ _).alloc (Nat.le_refl _) _)) _ r rfl ((Blk.new _ _ _).cell 0) (by rw [HN.out]; omega) (by simp; omega) ?_; intro A2 c2 w4 ho4 hb4 hg4; rw [HN.out] at ho4 ⊢))
              go_roundw
              case rel => exact ⟨0 + 1, n + 1, A2, c2, .inr (.inl ⟨rfl, rfl⟩), rfl, by rw [HP.out, HF.out, List.length_append, HN.out]; rfl, by rw [HP.out, HF.out]; exact ho4, (bdrew hb _).trans ((hb2.mono hzr).trans ((hb3.mono (by omega)).trans (((Below.refl _ _).alloc (by omega) _).trans hb4)))⟩
              case measure => simp
            · have t1 : isB s ((k : Int) + -1) 82 = false := by rw [isB_eq (by decide)]; simp [c1]
              have HF : Hid (clobAt 76 82 ((k : Int) - 1) s k = []) := clobAt_no fun h => c1 h.2
              have HO := Lib.hid ho; clear ho c0 c1
              go_wp2
              go_quiet (fail)
              go_wp2_with (go_at_call 196; (with_reducible refine (is82_any s _ _ hs6).mono ?_); rintro e w1 ⟨rfl, rfl⟩)
              go_roundw
              case rel => exact ⟨0 + 1, n, A, c, .inr (.inl ⟨rfl, rfl⟩), rfl, by rw [HP.out, HF.out, List.append_nil, HN.out], by rw [HP.out, HF.out, List.append_nil]; exact HO.out.below (bdrew (Below.refl _ _) _), bdrew hb _⟩
              case measure => simp
          · have t0 := beq_f 76 rfl c0
            have HE : Hid ((part 76 82 s k 0) = acc (clobBoth 76 82 s) (k + 1)) := by
              show _ = _
              have e1 : clobAt 76 82 ((k : Int) - 1) s k = [] := clobAt_no fun h => c0 (by rw [← HC.out]; exact h.1)
              have e2 : clobAt 76 82 ((k : Int) + 1) s k = [] := clobAt_no fun h => c0 (by rw [← HC.out]; exact h.1)
              rw [← part3, part2, part1, e1, e2]; simp [part]
            have HO := Lib.hid ho; clear ho c0
            go_wp2
            go_quiet (fail)
            go_wp2_with fail
            go_roundw
            case rel => exact ⟨k + 1, n, A, c, by go_num, by omega, rfl, by rw [← HE.out, HN.out], by rw [← HE.out]; exact HO.out.below (bdrew (Below.refl _ _) _), bdrew hb _⟩
            case measure => simp [intOf]; omega
        · have hp : (part 76 82 s k (1 + 1)) = (part 76 82 s k 1) ++ clobAt 76 82 ((k : Int) + 1) s k := part2 _ _ _ _
          have HP := Lib.hid hp; clear hp
          by_cases c0 : s[k] = 76
          · have t0 := beq_t 76 rfl c0
            have H0 : Hid (cellv s k = 76) := by show _ = _; rw [HC.out]; exact c0
            by_cases c1 : cellv s ((k : Int) + 1) = 82
            · have t1 : isB s ((k : Int) + 1) 82 = true := by rw [isB_eq (by decide)]; simp [c1]
              obtain ⟨hr1, hr2⟩ := cellv_pos c1 (by decide)
              have HF : Hid (clobAt 76 82 ((k : Int) + 1) s k = [str ((s.data.toList.set k 46).set ((k : Int) + 1).toNat 76)]) := clobAt_yes H0.out c1
              clear c0 c1
              have hset1 := fun wx => setS_any s ⟨#[46]⟩ k 46 wx (by omega) (by omega) (by omega) dot1 (by decide)
              obtain ⟨p, hp⟩ : ∃ p, p = str (s.data.toList.set k 46) := ⟨_, rfl⟩
              have hpz : p.size = s.size := by rw [hp, str_size, List.length_set, data_len]
              have hset2 := fun wx => setS_any p ⟨#[76]⟩ ((k : Int) + 1) 76 wx (by omega) (by omega) (by omega) rfl (by decide)
              rw [Int.toNat_natCast, ← hp] at hset1
              obtain ⟨r, hr⟩ : ∃ r, r = str ((s.data.toList.set k 46).set ((k : Int) + 1).toNat 76) := ⟨_, rfl⟩
              have hpd : p.data.toList = s.data.toList.set k 46 := by rw [hp]; rfl
              rw [hpd, ← hr] at hset2
              rw [← hr] at HF
              have HS1 := Lib.hid hset1; have HS2 := Lib.hid hset2; clear hset1 hset2 hr hp hpd hpz
              go_wp2
              go_quiet (fail)
              have ho := ho.below (bdrew (Below.refl _ _) nq)
              go_wp2_with (first | (go_at_call 196; (with_reducible refine (is82_any s _ _ hs6).mono ?_); rintro e w1 ⟨rfl, rfl⟩) | (go_at_call 197; (with_reducible refine (HS1.out _).mono ?_); rintro e w2 ⟨rfl, hb2⟩; have hz2 : wr.heap.size ≤ w2.heap.size := hb2.size; have ho := ho.below hb2) | (go_at_call 197; (with_reducible refine (HS2.out _).mono ?_); rintro e w3 ⟨rfl, hb3⟩; have hz3 := hb3.size; have ho := ho.below hb3) | (at_builtin; refine append_str rfl _ _ rfl w.heap.size _ (part 76 82 s k 1) rfl (ho.below ((Below.refl _ _).alloc (Nat.le_refl _) _)) _ r rfl ((Blk.new _ _ _).cell 0) (by rw [HN.out]; omega) (by simp; omega) ?_; intro A2 c2 w4 ho4 hb4 hg4; rw [HN.out] at ho4 ⊢))
              go_roundw
              case rel => exact ⟨1 + 1, n + 1, A2, c2, .inr (.inr ⟨rfl, rfl⟩), rfl, by rw [HP.out, HF.out, List.length_append, HN.out]; rfl, by rw [HP.out, HF.out]; exact ho4, (bdrew hb _).trans ((hb2.mono hzr).trans ((hb3.mono (by omega)).trans (((Below.refl _ _).alloc (by omega) _).trans hb4)))⟩
              case measure => simp
            · have t1 : isB s ((k : Int) + 1) 82 = false := by rw [isB_eq (by decide)]; simp [c1]
              have HF : Hid (clobAt 76 82 ((k : Int) + 1) s k = []) := clobAt_no fun h => c1 h.2
              have HO := Lib.hid ho; clear ho c0 c1
              go_wp2
              go_quiet (fail)
              go_wp2_with (go_at_call 196; (with_reducible refine (is82_any s _ _ hs6).mono ?_); rintro e w1 ⟨rfl, rfl⟩)
              go_roundw
              case rel => exact ⟨1 + 1, n, A, c, .inr (.inr ⟨rfl, rfl⟩), rfl, by rw [HP.out, HF.out, List.append_nil, HN.out], by rw [HP.out, HF.out, List.append_nil]; exact HO.out.below (bdrew (Below.refl _ _) _), bdrew hb _⟩
              case measure => simp
          · have t0 := beq_f 76 rfl c0
            have HE : Hid ((part 76 82 s k 1) = acc (clobBoth 76 82 s) (k + 1)) := by
              show _ = _
              have e1 : clobAt 76 82 ((k : Int) - 1) s k = [] := clobAt_no fun h => c0 (by rw [← HC.out]; exact h.1)
              have e2 : clobAt 76 82 ((k : Int) + 1) s k = [] := clobAt_no fun h => c0 (by rw [← HC.out]; exact h.1)
              rw [← part3, part2, part1, e1, e2]; simp [part]
            have HO := Lib.hid ho; clear ho c0
            go_wp2
            go_quiet (fail)
            go_wp2_with fail
            go_roundw
            case rel => exact ⟨k + 1, n, A, c, by go_num, by omega, rfl, by rw [← HE.out, HN.out], by rw [← HE.out]; exact HO.out.below (bdrew (Below.refl _ _) _), bdrew hb _⟩
            case measure => simp [intOf]; omega
        · have HO := Lib.hid ho; clear ho
          go_wp2
          go_quiet (fail)
          go_wp2
          go_roundw
          case rel => exact ⟨k + 1, n, A, c, by go_num, by omega, rfl, by rw [← part3, HN.out], by rw [← part3]; exact HO.out.below (bdrew (Below.refl _ _) _), bdrew hb _⟩
          case measure => simp [intOf]; omega
    · obtain rfl : k = s.size := by omega
      have HO := Lib.hid ho; clear ho
      go_wp2
      go_ret
      exact RetS.mk HO.out hn hb

set_option maxRecDepth 100000 in
set_option maxHeartbeats 3200000 in
theorem movesS1R_any (s : ByteArray) (w : World) (hs : s.size ≤ 12) :
    Calls Tryd.prog 154 #[.int .i64 1, .string s, .bool false] w (RetS w (acc (clobBoth 82 76 s) s.size)) := by
  have hs6 : s.size ≤ 1000000 := by omega
  have l76 : ((⟨#[76]⟩ : ByteArray)[0]'(by decide)).toNat = 76 := rfl
  have l82 : ((⟨#[82]⟩ : ByteArray)[0]'(by decide)).toNat = 82 := rfl
  go_enter Tryd.func154, Tryd.ntmps154
  go_wp2
  go_loopw [7, 10, 11] (fun v i z wr => ∃ (k n : Nat) (A : Option Addr) (c : Nat), i = .int .i64 k ∧ k ≤ s.size ∧ v = .slice A n c ∧ n = (acc (clobBoth 82 76 s) k).length ∧ Own wr w.heap.size 9 (.slice A n c) (scells (acc (clobBoth 82 76 s) k)) ∧ Below w.heap.size w wr) (fun _ i _ _ => s.size - (intOf i).toNat)
  case atStart => exact ⟨0, 0, _, _, rfl, by omega, rfl, rfl, Own.empty _ 9 _ _ (Nat.le_refl _), (Below.refl _ _).alloc (Nat.le_refl _) _⟩
  case round =>
    obtain ⟨k, n, A, c, rfl, hk, rfl, hn, ho, hb⟩ := hrel
    obtain ⟨wo, rfl⟩ : ∃ wo : World, wo = wr := ⟨_, rfl⟩
    by_cases hlt : k < s.size
    · have HC := Lib.hid (cellv_in hlt)
      have HN := Lib.hid hn; have HO := Lib.hid ho; clear hn ho
      go_wp2
      go_loopw [7, 11] (fun v y wr => ∃ (j n : Nat) (A : Option Addr) (c : Nat), (j = 0 ∧ y = .int .i64 (-1) ∨ j = 1 ∧ y = .int .i64 1 ∨ j = 2 ∧ y = .int .i64 3) ∧ v = .slice A n c ∧ n = (part 82 76 s k j).length ∧ Own wr w.heap.size 9 (.slice A n c) (scells (part 82 76 s k j)) ∧ Below w.heap.size w wr) (fun _ y _ => (3 - (match y with | .int _ m => m | _ => 0) : Int).toNat)
      case atStart => exact ⟨0, n, A, c, .inl ⟨rfl, rfl⟩, rfl, by rw [part0]; exact HN.out, by rw [part0]; exact HO.out, hb⟩
      case round =>
        clear HN HO hb
        obtain ⟨j, n, A, c, hj, rfl, hn, ho, hb⟩ := hrel
        have hle := part_le 82 76 s k j
        rw [← hn] at hle
        have HN : Hid ((part 82 76 s k j).length = n) := hn.symm
        clear hn
        have hzr := hb.size
        rcases hj with ⟨rfl, rfl⟩ | ⟨rfl, rfl⟩ | ⟨rfl, rfl⟩
        · have hp : (part 82 76 s k (0 + 1)) = (part 82 76 s k 0) ++ clobAt 82 76 ((k : Int) - 1) s k := part1 _ _ _ _
          have HP := Lib.hid hp; clear hp
          by_cases c0 : s[k] = 82
          · have t0 := beq_t 82 rfl c0
            have H0 : Hid (cellv s k = 82) := by show _ = _; rw [HC.out]; exact c0
            by_cases c1 : cellv s ((k : Int) + -1) = 76
            · have t1 : isB s ((k : Int) + -1) 76 = true := by rw [isB_eq (by decide)]; simp [c1]
              obtain ⟨hr1, hr2⟩ := cellv_pos c1 (by decide)
              have HF : Hid (clobAt 82 76 ((k : Int) - 1) s k = [str ((s.data.toList.set k 46).set ((k : Int) + -1).toNat 82)]) := clobAt_yes H0.out c1
              clear c0 c1
              have hset1 := fun wx => setS_any s ⟨#[46]⟩ k 46 wx (by omega) (by omega) (by omega) dot1 (by decide)
              obtain ⟨p, hp⟩ : ∃ p, p = str (s.data.toList.set k 46) := ⟨_, rfl⟩
              have hpz : p.size = s.size := by rw [hp, str_size, List.length_set, data_len]
              have hset2 := fun wx => setS_any p ⟨#[82]⟩ ((k : Int) + -1) 82 wx (by omega) (by omega) (by omega) rfl (by decide)
              rw [Int.toNat_natCast, ← hp] at hset1
              obtain ⟨r, hr⟩ : ∃ r, r = str ((s.data.toList.set k 46).set ((k : Int) + -1).toNat 82) := ⟨_, rfl⟩
              have hpd : p.data.toList = s.data.toList.set k 46 := by rw [hp]; rfl
              rw [hpd, ← hr] at hset2
              rw [← hr] at HF
              have HS1 := Lib.hid hset1; have HS2 := Lib.hid hset2; clear hset1 hset2 hr hp hpd hpz
              go_wp2
              go_quiet (fail)
              have ho := ho.below (bdrew (Below.refl _ _) nq)
              go_wp2_with (first | (go_at_call 196; (with_reducible refine (is76_any s _ _ hs6).mono ?_); rintro e w1 ⟨rfl, rfl⟩) | (go_at_call 197; (with_reducible refine (HS1.out _).mono ?_); rintro e w2 ⟨rfl, hb2⟩; have hz2 : wr.heap.size ≤ w2.heap.size := hb2.size; have ho := ho.below hb2) | (go_at_call 197; (with_reducible refine (HS2.out _).mono ?_); rintro e w3 ⟨rfl, hb3⟩; have hz3 := hb3.size; have ho := ho.below hb3) | (at_builtin; refine append_str rfl _ _ rfl w.heap.size _ (part 82 76 s k 0) rfl (ho.below ((Below.refl _ _).alloc (Nat.le_refl _) _)) _ r rfl ((Blk.new _ _ _).cell 0) (by rw [HN.out]; omega) (by simp; omega) ?_; intro A2 c2 w4 ho4 hb4 hg4; rw [HN.out] at ho4 ⊢))
              go_roundw
              case rel => exact ⟨0 + 1, n + 1, A2, c2, .inr (.inl ⟨rfl, rfl⟩), rfl, by rw [HP.out, HF.out, List.length_append, HN.out]; rfl, by rw [HP.out, HF.out]; exact ho4, (bdrew hb _).trans ((hb2.mono hzr).trans ((hb3.mono (by omega)).trans (((Below.refl _ _).alloc (by omega) _).trans hb4)))⟩
              case measure => simp
            · have t1 : isB s ((k : Int) + -1) 76 = false := by rw [isB_eq (by decide)]; simp [c1]
              have HF : Hid (clobAt 82 76 ((k : Int) - 1) s k = []) := clobAt_no fun h => c1 h.2
              have HO := Lib.hid ho; clear ho c0 c1
              go_wp2
              go_quiet (fail)
              go_wp2_with (go_at_call 196; (with_reducible refine (is76_any s _ _ hs6).mono ?_); rintro e w1 ⟨rfl, rfl⟩)
              go_roundw
              case rel => exact ⟨0 + 1, n, A, c, .inr (.inl ⟨rfl, rfl⟩), rfl, by rw [HP.out, HF.out, List.append_nil, HN.out], by rw [HP.out, HF.out, List.append_nil]; exact HO.out.below (bdrew (Below.refl _ _) _), bdrew hb _⟩
              case measure => simp
          · have t0 := beq_f 82 rfl c0
            have HE : Hid ((part 82 76 s k 0) = acc (clobBoth 82 76 s) (k + 1)) := by
              show _ = _
              have e1 : clobAt 82 76 ((k : Int) - 1) s k = [] := clobAt_no fun h => c0 (by rw [← HC.out]; exact h.1)
              have e2 : clobAt 82 76 ((k : Int) + 1) s k = [] := clobAt_no fun h => c0 (by rw [← HC.out]; exact h.1)
              rw [← part3, part2, part1, e1, e2]; simp [part]
            have HO := Lib.hid ho; clear ho c0
            go_wp2
            go_quiet (fail)
            go_wp2_with fail
            go_roundw
            case rel => exact ⟨k + 1, n, A, c, by go_num, by omega, rfl, by rw [← HE.out, HN.out], by rw [← HE.out]; exact HO.out.below (bdrew (Below.refl _ _) _), bdrew hb _⟩
            case measure => simp [intOf]; omega
        · have hp : (part 82 76 s k (1 + 1)) = (part 82 76 s k 1) ++ clobAt 82 76 ((k : Int) + 1) s k := part2 _ _ _ _
          have HP := Lib.hid hp; clear hp
          by_cases c0 : s[k] = 82
          · have t0 := beq_t 82 rfl c0
            have H0 : Hid (cellv s k = 82) := by show _ = _; rw [HC.out]; exact c0
            by_cases c1 : cellv s ((k : Int) + 1) = 76
            · have t1 : isB s ((k : Int) + 1) 76 = true := by rw [isB_eq (by decide)]; simp [c1]
              obtain ⟨hr1, hr2⟩ := cellv_pos c1 (by decide)
              have HF : Hid (clobAt 82 76 ((k : Int) + 1) s k = [str ((s.data.toList.set k 46).set ((k : Int) + 1).toNat 82)]) := clobAt_yes H0.out c1
              clear c0 c1
              have hset1 := fun wx => setS_any s ⟨#[46]⟩ k 46 wx (by omega) (by omega) (by omega) dot1 (by decide)
              obtain ⟨p, hp⟩ : ∃ p, p = str (s.data.toList.set k 46) := ⟨_, rfl⟩
              have hpz : p.size = s.size := by rw [hp, str_size, List.length_set, data_len]
              have hset2 := fun wx => setS_any p ⟨#[82]⟩ ((k : Int) + 1) 82 wx (by omega) (by omega) (by omega) rfl (by decide)
              rw [Int.toNat_natCast, ← hp] at hset1
              obtain ⟨r, hr⟩ : ∃ r, r = str ((s.data.toList.set k 46).set ((k : Int) + 1).toNat 82) := ⟨_, rfl⟩
              have hpd : p.data.toList = s.data.toList.set k 46 := by rw [hp]; rfl
              rw [hpd, ← hr] at hset2
              rw [← hr] at HF
              have HS1 := Lib.hid hset1; have HS2 := Lib.hid hset2; clear hset1 hset2 hr hp hpd hpz
              go_wp2
              go_quiet (fail)
              have ho := ho.below (bdrew (Below.refl _ _) nq)
              go_wp2_with (first | (go_at_call 196; (with_reducible refine (is76_any s _ _ hs6).mono ?_); rintro e w1 ⟨rfl, rfl⟩) | (go_at_call 197; (with_reducible refine (HS1.out _).mono ?_); rintro e w2 ⟨rfl, hb2⟩; have hz2 : wr.heap.size ≤ w2.heap.size := hb2.size; have ho := ho.below hb2) | (go_at_call 197; (with_reducible refine (HS2.out _).mono ?_); rintro e w3 ⟨rfl, hb3⟩; have hz3 := hb3.size; have ho := ho.below hb3) | (at_builtin; refine append_str rfl _ _ rfl w.heap.size _ (part 82 76 s k 1) rfl (ho.below ((Below.refl _ _).alloc (Nat.le_refl _) _)) _ r rfl ((Blk.new _ _ _).cell 0) (by rw [HN.out]; omega) (by simp; omega) ?_; intro A2 c2 w4 ho4 hb4 hg4; rw [HN.out] at ho4 ⊢))
              go_roundw
              case rel => exact ⟨1 + 1, n + 1, A2, c2, .inr (.inr ⟨rfl, rfl⟩), rfl, by rw [HP.out, HF.out, List.length_append, HN.out]; rfl, by rw [HP.out, HF.out]; exact ho4, (bdrew hb _).trans ((hb2.mono hzr).trans ((hb3.mono (by omega)).trans (((Below.refl _ _).alloc (by omega) _).trans hb4)))⟩
              case measure => simp
            · have t1 : isB s ((k : Int) + 1) 76 = false := by rw [isB_eq (by decide)]; simp [c1]
              have HF : Hid (clobAt 82 76 ((k : Int) + 1) s k = []) := clobAt_no fun h => c1 h.2
              have HO := Lib.hid ho; clear ho c0 c1
              go_wp2
              go_quiet (fail)
              go_wp2_with (go_at_call 196; (with_reducible refine (is76_any s _ _ hs6).mono ?_); rintro e w1 ⟨rfl, rfl⟩)
              go_roundw
              case rel => exact ⟨1 + 1, n, A, c, .inr (.inr ⟨rfl, rfl⟩), rfl, by rw [HP.out, HF.out, List.append_nil, HN.out], by rw [HP.out, HF.out, List.append_nil]; exact HO.out.below (bdrew (Below.refl _ _) _), bdrew hb _⟩
              case measure => simp
          · have t0 := beq_f 82 rfl c0
            have HE : Hid ((part 82 76 s k 1) = acc (clobBoth 82 76 s) (k + 1)) := by
              show _ = _
              have e1 : clobAt 82 76 ((k : Int) - 1) s k = [] := clobAt_no fun h => c0 (by rw [← HC.out]; exact h.1)
              have e2 : clobAt 82 76 ((k : Int) + 1) s k = [] := clobAt_no fun h => c0 (by rw [← HC.out]; exact h.1)
              rw [← part3, part2, part1, e1, e2]; simp [part]
            have HO := Lib.hid ho; clear ho c0
            go_wp2
            go_quiet (fail)
            go_wp2_with fail
            go_roundw
            case rel => exact ⟨k + 1, n, A, c, by go_num, by omega, rfl, by rw [← HE.out, HN.out], by rw [← HE.out]; exact HO.out.below (bdrew (Below.refl _ _) _), bdrew hb _⟩
            case measure => simp [intOf]; omega
        · have HO := Lib.hid ho; clear ho
          go_wp2
          go_quiet (fail)
          go_wp2
          go_roundw
          case rel => exact ⟨k + 1, n, A, c, by go_num, by omega, rfl, by rw [← part3, HN.out], by rw [← part3]; exact HO.out.below (bdrew (Below.refl _ _) _), bdrew hb _⟩
          case measure => simp [intOf]; omega
    · obtain rfl : k = s.size := by omega
      have HO := Lib.hid ho; clear ho
      go_wp2
      go_ret
      exact RetS.mk HO.out hn hb
end Go.Proofs.YtadljglcbieifaaDoor
