/- The moves of strips: the program's, by contracts. Conditions: none. -/
import Derived.Test.YtadljglcbieifaaDoorMoveS
namespace Go.Proofs.YtadljglcbieifaaDoor
open Go.RowKit
set_option linter.unusedVariables false

def toadAt (mine other : UInt8) (st st2 : Int) (s : ByteArray) (k : Nat) : List ByteArray :=
  if cellv s k = mine then
    if cellv s (k + st) = 46 then [str ((s.data.toList.set k 46).set ((k : Int) + st).toNat mine)]
    else if cellv s (k + st) = other ∧ cellv s (k + st2) = 46 then [str ((s.data.toList.set k 46).set ((k : Int) + st2).toNat mine)] else []
  else []
def clobAt (mine other : UInt8) (st : Int) (s : ByteArray) (k : Nat) : List ByteArray :=
  if cellv s k = mine ∧ cellv s st = other then [str ((s.data.toList.set k 46).set st.toNat mine)] else []
def clobBoth (mine other : UInt8) (s : ByteArray) (k : Nat) : List ByteArray := clobAt mine other ((k : Int) - 1) s k ++ clobAt mine other ((k : Int) + 1) s k
def markAt (mine bar : UInt8) (s : ByteArray) (k : Nat) : List ByteArray :=
  if cellv s k = 46 ∧ ¬ cellv s ((k : Int) - 1) = bar ∧ ¬ cellv s ((k : Int) + 1) = bar then [str (s.data.toList.set k mine)] else []
def acc (f : Nat → List ByteArray) (k : Nat) : List ByteArray := (List.range k).flatMap f
theorem acc_succ (f : Nat → List ByteArray) (k : Nat) : acc f (k + 1) = acc f k ++ f k := by simp [acc, List.range_succ]
theorem acc_zero (f : Nat → List ByteArray) : acc f 0 = [] := rfl
theorem acc_le (f : Nat → List ByteArray) (n : Nat) (h : ∀ k, (f k).length ≤ n) (k : Nat) : (acc f k).length ≤ n * k := by
  induction k with
  | zero => simp [acc]
  | succ k ih =>
    have := h k
    rw [acc_succ, List.length_append, Nat.mul_succ]; omega
theorem toadAt_le (m o : UInt8) (x y : Int) (s : ByteArray) (k : Nat) : (toadAt m o x y s k).length ≤ 1 := by unfold toadAt; (repeat' split) <;> simp
theorem markAt_le (m o : UInt8) (s : ByteArray) (k : Nat) : (markAt m o s k).length ≤ 1 := by unfold markAt; split <;> simp
theorem clobAt_le (m o : UInt8) (x : Int) (s : ByteArray) (k : Nat) : (clobAt m o x s k).length ≤ 1 := by unfold clobAt; split <;> simp
theorem clobBoth_le (m o : UInt8) (s : ByteArray) (k : Nat) : (clobBoth m o s k).length ≤ 2 := by
  have := clobAt_le m o ((k : Int) - 1) s k
  have := clobAt_le m o ((k : Int) + 1) s k
  unfold clobBoth; rw [List.length_append]; omega
/-- New texts are handed back; nothing that was there has turned. -/
def RetS (w : World) (ss : List ByteArray) (e : Ending) (w' : World) : Prop :=
  ∃ A c, e = .returned (.slice A ss.length c) ∧ Own w' w.heap.size 9 (.slice A ss.length c) (scells ss) ∧ Below w.heap.size w w'
theorem RetS.mk {w w' : World} {ss : List ByteArray} {A : Option Addr} {n c : Nat} (ho : Own w' w.heap.size 9 (.slice A n c) (scells ss)) (hn : n = ss.length) (hb : Below w.heap.size w w') : RetS w ss (.returned (.slice A n c)) w' := by
  subst hn; exact ⟨A, c, rfl, ho, hb⟩
theorem own_snoc {w : World} {base : Nat} {A : Option Addr} {n c : Nat} {f : Nat → List ByteArray} {k : Nat} {x : ByteArray} (h : Own w base 9 (.slice A n c) (scells (acc f k ++ [x]))) (hf : f k = [x]) : Own w base 9 (.slice A n c) (scells (acc f (k + 1))) := by
  rw [acc_succ, hf]; exact h
theorem acc_nil {f : Nat → List ByteArray} {k : Nat} (hf : f k = []) : acc f k = acc f (k + 1) := by rw [acc_succ, hf, List.append_nil]

set_option maxHeartbeats 1600000 in
theorem toadL_any (s : ByteArray) (w : World) (hs : s.size ≤ 12) :
    Calls Tryd.prog 158 #[.string s, .bool true] w (RetS w (acc (toadAt 84 70 (1) (2) s) s.size)) := by
  go_enter Tryd.func158, Tryd.ntmps158
  go_wp2
  go_loopw [8, 9, 14] (fun v i' i wr => ∃ (k n : Nat) (A : Option Addr) (c : Nat), i = .int .i64 k ∧ k ≤ s.size ∧ v = .slice A n c ∧ n = (acc (toadAt 84 70 (1) (2) s) k).length ∧ Own wr w.heap.size 9 (.slice A n c) (scells (acc (toadAt 84 70 (1) (2) s) k)) ∧ Below w.heap.size w wr) (fun _ _ i _ => s.size - (intOf i).toNat)
  case atStart => exact ⟨0, 0, _, _, rfl, by omega, rfl, rfl, Own.empty _ 9 _ _ (Nat.le_refl _), (Below.refl _ _).alloc (Nat.le_refl _) _⟩
  case round =>
    obtain ⟨k, n, A, c, rfl, hk, rfl, hn, ho, hb⟩ := hrel
    have hle := acc_le (toadAt 84 70 (1) (2) s) 1 (toadAt_le _ _ _ _ s) k
    rw [← hn] at hle
    have HN : Hid ((acc (toadAt 84 70 (1) (2) s) k).length = n) := hn.symm
    clear hn
    have hzr := hb.size
    by_cases hlt : k < s.size
    · have HC := Lib.hid (cellv_in hlt)
      by_cases c0 : s[k] = 84
      · have t0 : ((s[k].toNat : Int) != 84) = false := bne_f 84 rfl c0
        have H0 : Hid (cellv s k = 84) := by show _ = _; rw [HC.out]; exact c0
        clear c0
        by_cases c1 : cellv s ((k : Int) + 1) = 46
        · have t1 := beq_t 46 rfl c1
          obtain ⟨hr1, hr2⟩ := cellv_pos c1 (by decide)
          have HF : Hid ((toadAt 84 70 (1) (2) s) k = [str ((s.data.toList.set k 46).set ((k : Int) + 1).toNat 84)]) := by show toadAt _ _ _ _ _ _ = _; rw [toadAt, if_pos H0.out, if_pos c1]
          clear c1
          have hset := fun wx => set_any s k ((k : Int) + 1) 46 84 wx (by omega) (by omega) (by omega) (by omega) (by omega)
          rw [Int.toNat_natCast] at hset
          obtain ⟨r, hr⟩ : ∃ r, r = str ((s.data.toList.set k 46).set ((k : Int) + 1).toNat 84) := ⟨_, rfl⟩
          rw [← hr] at hset HF
          have HS := Lib.hid hset; clear hset hr
          go_wp2_with (first | (go_at_call 199; refine (cell_any _ _ _ (by omega)).mono ?_; rintro e w1 ⟨rfl, rfl⟩) | (go_at_call 200; refine (HS.out _).mono ?_; rintro e w2 ⟨rfl, hb2⟩; have hz2 := hb2.size; have ho := ho.below hb2) | (at_builtin; refine append_str rfl _ _ rfl w.heap.size _ (acc (toadAt 84 70 (1) (2) s) k) rfl (ho.below ((Below.refl _ _).alloc (Nat.le_refl _) _)) _ r rfl ((Blk.new _ _ _).cell 0) (by rw [HN.out]; omega) (by simp; omega) ?_; intro A2 c2 w3 ho3 hb3 hg3; rw [HN.out] at ho3 ⊢))
          go_roundw
          case rel => exact ⟨k + 1, n + 1, A2, c2, by go_num, by omega, rfl, by rw [acc_succ, HF.out, List.length_append, HN.out]; rfl, own_snoc ho3 HF.out, hb.trans ((hb2.mono hzr).trans (((Below.refl _ _).alloc (Nat.le_trans hzr hz2) _).trans hb3))⟩
          case measure => simp [intOf]; omega
        · have t1 := beq_f 46 rfl c1
          by_cases c2 : cellv s ((k : Int) + 1) = 70 ∧ cellv s ((k : Int) + 2) = 46
          · obtain ⟨c2, c3⟩ := c2
            have t2 := beq_t 70 rfl c2
            have t3 := beq_t 46 rfl c3
            obtain ⟨hr1, hr2⟩ := cellv_pos c3 (by decide)
            have HF : Hid ((toadAt 84 70 (1) (2) s) k = [str ((s.data.toList.set k 46).set ((k : Int) + 2).toNat 84)]) := by show toadAt _ _ _ _ _ _ = _; rw [toadAt, if_pos H0.out, if_neg c1, if_pos ⟨c2, c3⟩]
            clear c1 c2 c3
            have hset := fun wx => set_any s k ((k : Int) + 2) 46 84 wx (by omega) (by omega) (by omega) (by omega) (by omega)
            rw [Int.toNat_natCast] at hset
            obtain ⟨r, hr⟩ : ∃ r, r = str ((s.data.toList.set k 46).set ((k : Int) + 2).toNat 84) := ⟨_, rfl⟩
            rw [← hr] at hset HF
            have HS := Lib.hid hset; clear hset hr
            go_wp2_with (first | (go_at_call 199; refine (cell_any _ _ _ (by omega)).mono ?_; rintro e w1 ⟨rfl, rfl⟩) | (go_at_call 200; refine (HS.out _).mono ?_; rintro e w2 ⟨rfl, hb2⟩; have hz2 := hb2.size; have ho := ho.below hb2) | (at_builtin; refine append_str rfl _ _ rfl w.heap.size _ (acc (toadAt 84 70 (1) (2) s) k) rfl (ho.below ((Below.refl _ _).alloc (Nat.le_refl _) _)) _ r rfl ((Blk.new _ _ _).cell 0) (by rw [HN.out]; omega) (by simp; omega) ?_; intro A2 c2 w3 ho3 hb3 hg3; rw [HN.out] at ho3 ⊢))
            go_roundw
            case rel => exact ⟨k + 1, n + 1, A2, c2, by go_num, by omega, rfl, by rw [acc_succ, HF.out, List.length_append, HN.out]; rfl, own_snoc ho3 HF.out, hb.trans ((hb2.mono hzr).trans (((Below.refl _ _).alloc (Nat.le_trans hzr hz2) _).trans hb3))⟩
            case measure => simp [intOf]; omega
          · have HF : Hid ((toadAt 84 70 (1) (2) s) k = []) := by show toadAt _ _ _ _ _ _ = _; rw [toadAt, if_pos H0.out, if_neg c1, if_neg c2]
            have HO := Lib.hid ho; clear ho
            by_cases c4 : cellv s ((k : Int) + 1) = 70
            · have t2 := beq_t 70 rfl c4
              have t3 : (((cellv s ((k : Int) + 2)).toNat : Int) == 46) = false := beq_f 46 rfl fun h => c2 ⟨c4, h⟩
              clear c1 c2 c4
              go_wp2_with (go_at_call 199; refine (cell_any _ _ _ (by omega)).mono ?_; rintro e w1 ⟨rfl, rfl⟩)
              go_roundw
              case rel => exact ⟨k + 1, n, A, c, by go_num, by omega, rfl, by rw [← acc_nil HF.out, HN.out], by rw [← acc_nil HF.out]; exact HO.out, hb⟩
              case measure => simp [intOf]; omega
            · have t2 := beq_f 70 rfl c4
              clear c1 c2 c4
              go_wp2_with (go_at_call 199; refine (cell_any _ _ _ (by omega)).mono ?_; rintro e w1 ⟨rfl, rfl⟩)
              go_roundw
              case rel => exact ⟨k + 1, n, A, c, by go_num, by omega, rfl, by rw [← acc_nil HF.out, HN.out], by rw [← acc_nil HF.out]; exact HO.out, hb⟩
              case measure => simp [intOf]; omega
      · have t0 : ((s[k].toNat : Int) != 84) = true := bne_t 84 rfl c0
        have HF : Hid ((toadAt 84 70 (1) (2) s) k = []) := by show toadAt _ _ _ _ _ _ = _; rw [toadAt, if_neg (by rw [HC.out]; exact c0)]
        have HO := Lib.hid ho; clear ho c0
        go_wp2
        go_roundw
        case rel => exact ⟨k + 1, n, A, c, by go_num, by omega, rfl, by rw [← acc_nil HF.out, HN.out], by rw [← acc_nil HF.out]; exact HO.out, hb⟩
        case measure => simp [intOf]; omega
    · obtain rfl : k = s.size := by omega
      have HO := Lib.hid ho; clear ho
      go_wp2
      go_ret
      exact RetS.mk HO.out HN.out.symm hb

set_option maxHeartbeats 1600000 in
theorem toadR_any (s : ByteArray) (w : World) (hs : s.size ≤ 12) :
    Calls Tryd.prog 158 #[.string s, .bool false] w (RetS w (acc (toadAt 70 84 (-1) (-2) s) s.size)) := by
  go_enter Tryd.func158, Tryd.ntmps158
  go_wp2
  go_loopw [8, 9, 14] (fun v i' i wr => ∃ (k n : Nat) (A : Option Addr) (c : Nat), i = .int .i64 k ∧ k ≤ s.size ∧ v = .slice A n c ∧ n = (acc (toadAt 70 84 (-1) (-2) s) k).length ∧ Own wr w.heap.size 9 (.slice A n c) (scells (acc (toadAt 70 84 (-1) (-2) s) k)) ∧ Below w.heap.size w wr) (fun _ _ i _ => s.size - (intOf i).toNat)
  case atStart => exact ⟨0, 0, _, _, rfl, by omega, rfl, rfl, Own.empty _ 9 _ _ (Nat.le_refl _), (Below.refl _ _).alloc (Nat.le_refl _) _⟩
  case round =>
    obtain ⟨k, n, A, c, rfl, hk, rfl, hn, ho, hb⟩ := hrel
    have hle := acc_le (toadAt 70 84 (-1) (-2) s) 1 (toadAt_le _ _ _ _ s) k
    rw [← hn] at hle
    have HN : Hid ((acc (toadAt 70 84 (-1) (-2) s) k).length = n) := hn.symm
    clear hn
    have hzr := hb.size
    by_cases hlt : k < s.size
    · have HC := Lib.hid (cellv_in hlt)
      by_cases c0 : s[k] = 70
      · have t0 : ((s[k].toNat : Int) != 70) = false := bne_f 70 rfl c0
        have H0 : Hid (cellv s k = 70) := by show _ = _; rw [HC.out]; exact c0
        clear c0
        by_cases c1 : cellv s ((k : Int) + -1) = 46
        · have t1 := beq_t 46 rfl c1
          obtain ⟨hr1, hr2⟩ := cellv_pos c1 (by decide)
          have HF : Hid ((toadAt 70 84 (-1) (-2) s) k = [str ((s.data.toList.set k 46).set ((k : Int) + -1).toNat 70)]) := by show toadAt _ _ _ _ _ _ = _; rw [toadAt, if_pos H0.out, if_pos c1]
          clear c1
          have hset := fun wx => set_any s k ((k : Int) + -1) 46 70 wx (by omega) (by omega) (by omega) (by omega) (by omega)
          rw [Int.toNat_natCast] at hset
          obtain ⟨r, hr⟩ : ∃ r, r = str ((s.data.toList.set k 46).set ((k : Int) + -1).toNat 70) := ⟨_, rfl⟩
          rw [← hr] at hset HF
          have HS := Lib.hid hset; clear hset hr
          go_wp2_with (first | (go_at_call 199; refine (cell_any _ _ _ (by omega)).mono ?_; rintro e w1 ⟨rfl, rfl⟩) | (go_at_call 200; refine (HS.out _).mono ?_; rintro e w2 ⟨rfl, hb2⟩; have hz2 := hb2.size; have ho := ho.below hb2) | (at_builtin; refine append_str rfl _ _ rfl w.heap.size _ (acc (toadAt 70 84 (-1) (-2) s) k) rfl (ho.below ((Below.refl _ _).alloc (Nat.le_refl _) _)) _ r rfl ((Blk.new _ _ _).cell 0) (by rw [HN.out]; omega) (by simp; omega) ?_; intro A2 c2 w3 ho3 hb3 hg3; rw [HN.out] at ho3 ⊢))
          go_roundw
          case rel => exact ⟨k + 1, n + 1, A2, c2, by go_num, by omega, rfl, by rw [acc_succ, HF.out, List.length_append, HN.out]; rfl, own_snoc ho3 HF.out, hb.trans ((hb2.mono hzr).trans (((Below.refl _ _).alloc (Nat.le_trans hzr hz2) _).trans hb3))⟩
          case measure => simp [intOf]; omega
        · have t1 := beq_f 46 rfl c1
          by_cases c2 : cellv s ((k : Int) + -1) = 84 ∧ cellv s ((k : Int) + -2) = 46
          · obtain ⟨c2, c3⟩ := c2
            have t2 := beq_t 84 rfl c2
            have t3 := beq_t 46 rfl c3
            obtain ⟨hr1, hr2⟩ := cellv_pos c3 (by decide)
            have HF : Hid ((toadAt 70 84 (-1) (-2) s) k = [str ((s.data.toList.set k 46).set ((k : Int) + -2).toNat 70)]) := by show toadAt _ _ _ _ _ _ = _; rw [toadAt, if_pos H0.out, if_neg c1, if_pos ⟨c2, c3⟩]
            clear c1 c2 c3
            have hset := fun wx => set_any s k ((k : Int) + -2) 46 70 wx (by omega) (by omega) (by omega) (by omega) (by omega)
            rw [Int.toNat_natCast] at hset
            obtain ⟨r, hr⟩ : ∃ r, r = str ((s.data.toList.set k 46).set ((k : Int) + -2).toNat 70) := ⟨_, rfl⟩
            rw [← hr] at hset HF
            have HS := Lib.hid hset; clear hset hr
            go_wp2_with (first | (go_at_call 199; refine (cell_any _ _ _ (by omega)).mono ?_; rintro e w1 ⟨rfl, rfl⟩) | (go_at_call 200; refine (HS.out _).mono ?_; rintro e w2 ⟨rfl, hb2⟩; have hz2 := hb2.size; have ho := ho.below hb2) | (at_builtin; refine append_str rfl _ _ rfl w.heap.size _ (acc (toadAt 70 84 (-1) (-2) s) k) rfl (ho.below ((Below.refl _ _).alloc (Nat.le_refl _) _)) _ r rfl ((Blk.new _ _ _).cell 0) (by rw [HN.out]; omega) (by simp; omega) ?_; intro A2 c2 w3 ho3 hb3 hg3; rw [HN.out] at ho3 ⊢))
            go_roundw
            case rel => exact ⟨k + 1, n + 1, A2, c2, by go_num, by omega, rfl, by rw [acc_succ, HF.out, List.length_append, HN.out]; rfl, own_snoc ho3 HF.out, hb.trans ((hb2.mono hzr).trans (((Below.refl _ _).alloc (Nat.le_trans hzr hz2) _).trans hb3))⟩
            case measure => simp [intOf]; omega
          · have HF : Hid ((toadAt 70 84 (-1) (-2) s) k = []) := by show toadAt _ _ _ _ _ _ = _; rw [toadAt, if_pos H0.out, if_neg c1, if_neg c2]
            have HO := Lib.hid ho; clear ho
            by_cases c4 : cellv s ((k : Int) + -1) = 84
            · have t2 := beq_t 84 rfl c4
              have t3 : (((cellv s ((k : Int) + -2)).toNat : Int) == 46) = false := beq_f 46 rfl fun h => c2 ⟨c4, h⟩
              clear c1 c2 c4
              go_wp2_with (go_at_call 199; refine (cell_any _ _ _ (by omega)).mono ?_; rintro e w1 ⟨rfl, rfl⟩)
              go_roundw
              case rel => exact ⟨k + 1, n, A, c, by go_num, by omega, rfl, by rw [← acc_nil HF.out, HN.out], by rw [← acc_nil HF.out]; exact HO.out, hb⟩
              case measure => simp [intOf]; omega
            · have t2 := beq_f 84 rfl c4
              clear c1 c2 c4
              go_wp2_with (go_at_call 199; refine (cell_any _ _ _ (by omega)).mono ?_; rintro e w1 ⟨rfl, rfl⟩)
              go_roundw
              case rel => exact ⟨k + 1, n, A, c, by go_num, by omega, rfl, by rw [← acc_nil HF.out, HN.out], by rw [← acc_nil HF.out]; exact HO.out, hb⟩
              case measure => simp [intOf]; omega
      · have t0 : ((s[k].toNat : Int) != 70) = true := bne_t 70 rfl c0
        have HF : Hid ((toadAt 70 84 (-1) (-2) s) k = []) := by show toadAt _ _ _ _ _ _ = _; rw [toadAt, if_neg (by rw [HC.out]; exact c0)]
        have HO := Lib.hid ho; clear ho c0
        go_wp2
        go_roundw
        case rel => exact ⟨k + 1, n, A, c, by go_num, by omega, rfl, by rw [← acc_nil HF.out, HN.out], by rw [← acc_nil HF.out]; exact HO.out, hb⟩
        case measure => simp [intOf]; omega
    · obtain rfl : k = s.size := by omega
      have HO := Lib.hid ho; clear ho
      go_wp2
      go_ret
      exact RetS.mk HO.out HN.out.symm hb

set_option maxHeartbeats 1600000 in
theorem mark_any (mine bar : UInt8) (s : ByteArray) (w : World) (hs : s.size ≤ 12) :
    Calls Tryd.prog 160 #[.string s, .int .u8 (mine.toNat : Int), .int .u8 (bar.toNat : Int)] w (RetS w (acc (markAt mine bar s) s.size)) := by
  go_enter Tryd.func160, Tryd.ntmps160
  go_wp2
  go_loopw [7, 8, 12] (fun v i' i wr => ∃ (k n : Nat) (A : Option Addr) (c : Nat), i = .int .i64 k ∧ k ≤ s.size ∧ v = .slice A n c ∧ n = (acc (markAt mine bar s) k).length ∧ Own wr w.heap.size 9 (.slice A n c) (scells (acc (markAt mine bar s) k)) ∧ Below w.heap.size w wr) (fun _ _ i _ => s.size - (intOf i).toNat)
  case atStart => exact ⟨0, 0, _, _, rfl, by omega, rfl, rfl, Own.empty _ 9 _ _ (Nat.le_refl _), (Below.refl _ _).alloc (Nat.le_refl _) _⟩
  case round =>
    obtain ⟨k, n, A, c, rfl, hk, rfl, hn, ho, hb⟩ := hrel
    have hle := acc_le (markAt mine bar s) 1 (markAt_le _ _ s) k
    rw [← hn] at hle
    have HN : Hid ((acc (markAt mine bar s) k).length = n) := hn.symm
    clear hn
    have hzr := hb.size
    by_cases hlt : k < s.size
    · have HC := Lib.hid (cellv_in hlt)
      by_cases c0 : s[k] = 46
      · have t0 := beq_t 46 rfl c0
        have H0 : Hid (cellv s k = 46) := by show _ = _; rw [HC.out]; exact c0
        clear c0
        by_cases c1 : cellv s ((k : Int) - 1) = bar
        · have t1 : (((cellv s ((k : Int) - 1)).toNat : Int) != (bar.toNat : Int)) = false := bne_f _ rfl c1
          have HF : Hid ((markAt mine bar s) k = []) := by show markAt _ _ _ _ = _; rw [markAt, if_neg fun h => h.2.1 c1]
          have HO := Lib.hid ho; clear ho c1
          go_wp2_with (go_at_call 199; refine (cell_any _ _ _ (by omega)).mono ?_; rintro e w1 ⟨rfl, rfl⟩)
          go_roundw
          case rel => exact ⟨k + 1, n, A, c, by go_num, by omega, rfl, by rw [← acc_nil HF.out, HN.out], by rw [← acc_nil HF.out]; exact HO.out, hb⟩
          case measure => simp [intOf]; omega

        · have t1 : (((cellv s ((k : Int) - 1)).toNat : Int) != (bar.toNat : Int)) = true := bne_t _ rfl c1
          by_cases c2 : cellv s ((k : Int) + 1) = bar
          · have t2 : (((cellv s ((k : Int) + 1)).toNat : Int) != (bar.toNat : Int)) = false := bne_f _ rfl c2
            have HF : Hid ((markAt mine bar s) k = []) := by show markAt _ _ _ _ = _; rw [markAt, if_neg fun h => h.2.2 c2]
            have HO := Lib.hid ho; clear ho c1 c2
            go_wp2_with (go_at_call 199; refine (cell_any _ _ _ (by omega)).mono ?_; rintro e w1 ⟨rfl, rfl⟩)
            go_roundw
            case rel => exact ⟨k + 1, n, A, c, by go_num, by omega, rfl, by rw [← acc_nil HF.out, HN.out], by rw [← acc_nil HF.out]; exact HO.out, hb⟩
            case measure => simp [intOf]; omega

          · have t2 : (((cellv s ((k : Int) + 1)).toNat : Int) != (bar.toNat : Int)) = true := bne_t _ rfl c2
            have HF : Hid ((markAt mine bar s) k = [str (s.data.toList.set k mine)]) := by show markAt _ _ _ _ = _; rw [markAt, if_pos ⟨H0.out, c1, c2⟩]
            clear c1 c2
            have hset := fun wx => set_any s k k mine mine wx (by omega) (by omega) (by omega) (by omega) (by omega)
            rw [Int.toNat_natCast, List.set_set] at hset
            obtain ⟨r, hr⟩ : ∃ r, r = str (s.data.toList.set k mine) := ⟨_, rfl⟩
            rw [← hr] at hset HF
            have HS := Lib.hid hset; clear hset hr
            go_wp2_with (first | (go_at_call 199; refine (cell_any _ _ _ (by omega)).mono ?_; rintro e w1 ⟨rfl, rfl⟩) | (go_at_call 200; refine (HS.out _).mono ?_; rintro e w2 ⟨rfl, hb2⟩; have hz2 := hb2.size; have ho := ho.below hb2) | (at_builtin; refine append_str rfl _ _ rfl w.heap.size _ (acc (markAt mine bar s) k) rfl (ho.below ((Below.refl _ _).alloc (Nat.le_refl _) _)) _ r rfl ((Blk.new _ _ _).cell 0) (by rw [HN.out]; omega) (by simp; omega) ?_; intro A2 c2 w3 ho3 hb3 hg3; rw [HN.out] at ho3 ⊢))
            go_roundw
            case rel => exact ⟨k + 1, n + 1, A2, c2, by go_num, by omega, rfl, by rw [acc_succ, HF.out, List.length_append, HN.out]; rfl, own_snoc ho3 HF.out, hb.trans ((hb2.mono hzr).trans (((Below.refl _ _).alloc (Nat.le_trans hzr hz2) _).trans hb3))⟩
            case measure => simp [intOf]; omega
      · have t0 := beq_f 46 rfl c0
        have HF : Hid ((markAt mine bar s) k = []) := by show markAt _ _ _ _ = _; rw [markAt, if_neg fun h => c0 (by rw [← HC.out]; exact h.1)]
        have HO := Lib.hid ho; clear ho c0
        go_wp2_with (go_at_call 199; refine (cell_any _ _ _ (by omega)).mono ?_; rintro e w1 ⟨rfl, rfl⟩)
        go_roundw
        case rel => exact ⟨k + 1, n, A, c, by go_num, by omega, rfl, by rw [← acc_nil HF.out, HN.out], by rw [← acc_nil HF.out]; exact HO.out, hb⟩
        case measure => simp [intOf]; omega

    · obtain rfl : k = s.size := by omega
      have HO := Lib.hid ho; clear ho
      go_wp2
      go_ret
      exact RetS.mk HO.out HN.out.symm hb

theorem sidesL_any (w : World) : Calls Tryd.prog 157 #[.bool true] w fun e w' => e = .returned (.tuple #[.int .u8 76, .int .u8 82]) ∧ w = w' := by
  go_enter Tryd.func157, Tryd.ntmps157
  go_wp2
  go_ret2
  exact ⟨rfl, rfl⟩

theorem sidesR_any (w : World) : Calls Tryd.prog 157 #[.bool false] w fun e w' => e = .returned (.tuple #[.int .u8 82, .int .u8 76]) ∧ w = w' := by
  go_enter Tryd.func157, Tryd.ntmps157
  go_wp2
  go_ret2
  exact ⟨rfl, rfl⟩
end Go.Proofs.YtadljglcbieifaaDoor
