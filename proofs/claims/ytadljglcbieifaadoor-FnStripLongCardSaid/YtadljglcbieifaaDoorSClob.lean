/- The moves of Clobber: the program's, by contracts. Conditions: none. -/
import Derived.Test.YtadljglcbieifaaDoorSMoves
namespace Go.Proofs.YtadljglcbieifaaDoor
open Go.RowKit
set_option linter.unusedVariables false

/-- What has been collected behind the first j neighbours of place k. -/
def part (mine other : UInt8) (s : ByteArray) (k j : Nat) : List ByteArray :=
  acc (clobBoth mine other s) k ++ ((if 1 ≤ j then clobAt mine other ((k : Int) - 1) s k else []) ++ (if 2 ≤ j then clobAt mine other ((k : Int) + 1) s k else []))
theorem part0 (m o : UInt8) (s : ByteArray) (k : Nat) : part m o s k 0 = acc (clobBoth m o s) k := by simp [part]
theorem part1 (m o : UInt8) (s : ByteArray) (k : Nat) : part m o s k 1 = part m o s k 0 ++ clobAt m o ((k : Int) - 1) s k := by simp [part]
theorem part2 (m o : UInt8) (s : ByteArray) (k : Nat) : part m o s k 2 = part m o s k 1 ++ clobAt m o ((k : Int) + 1) s k := by simp [part]
theorem part3 (m o : UInt8) (s : ByteArray) (k : Nat) : part m o s k 2 = acc (clobBoth m o s) (k + 1) := by rw [acc_succ]; simp [part, clobBoth]
theorem part_le (m o : UInt8) (s : ByteArray) (k j : Nat) : (part m o s k j).length ≤ 2 * k + 2 := by
  have h1 := acc_le (clobBoth m o s) 2 (clobBoth_le m o s) k
  have h2 := clobAt_le m o ((k : Int) - 1) s k
  have h3 := clobAt_le m o ((k : Int) + 1) s k
  unfold part
  rw [List.length_append, List.length_append]
  split <;> split <;> simp <;> omega
theorem clobAt_yes {m o : UInt8} {x : Int} {s : ByteArray} {k : Nat} (h : cellv s k = m) (h' : cellv s x = o) : clobAt m o x s k = [str ((s.data.toList.set k 46).set x.toNat m)] := if_pos ⟨h, h'⟩
theorem clobAt_no {m o : UInt8} {x : Int} {s : ByteArray} {k : Nat} (h : ¬ (cellv s k = m ∧ cellv s x = o)) : clobAt m o x s k = [] := if_neg h

set_option maxHeartbeats 1600000 in
theorem clobL_any (s : ByteArray) (w : World) (hs : s.size ≤ 12) :
    Calls Tryd.prog 159 #[.string s, .bool true] w (RetS w (acc (clobBoth 76 82 s) s.size)) := by
  go_enter Tryd.func159, Tryd.ntmps159
  go_wp2_with (go_at_call 157; refine (sidesL_any _).mono ?_; rintro e w1 ⟨rfl, rfl⟩)
  go_loopw [7, 8, 10, 19, 27] (fun v i' x i y wr => ∃ (k n : Nat) (A : Option Addr) (c : Nat), i = .int .i64 k ∧ k ≤ s.size ∧ v = .slice A n c ∧ n = (acc (clobBoth 76 82 s) k).length ∧ Own wr w.heap.size 9 (.slice A n c) (scells (acc (clobBoth 76 82 s) k)) ∧ Below w.heap.size w wr) (fun _ _ _ i _ _ => s.size - (intOf i).toNat)
  case atStart => exact ⟨0, 0, _, _, rfl, by omega, rfl, rfl, Own.empty _ 9 _ _ (Nat.le_refl _), (Below.refl _ _).alloc (Nat.le_refl _) _⟩
  case round =>
    obtain ⟨k, n, A, c, rfl, hk, rfl, hn, ho, hb⟩ := hrel
    obtain ⟨wo, rfl⟩ : ∃ wo : World, wo = wr := ⟨_, rfl⟩
    by_cases hlt : k < s.size
    · have HC := Lib.hid (cellv_in hlt)
      have HN := Lib.hid hn; have HO := Lib.hid ho; clear hn ho
      go_wp2
      go_loopw [7, 10, 27] (fun v x y wr => ∃ (j n : Nat) (A : Option Addr) (c : Nat), j ≤ 2 ∧ y = .int .i64 j ∧ v = .slice A n c ∧ n = (part 76 82 s k j).length ∧ Own wr w.heap.size 9 (.slice A n c) (scells (part 76 82 s k j)) ∧ Below w.heap.size w wr) (fun _ _ y _ => 2 - (intOf y).toNat)
      case atStart => exact ⟨0, n, A, c, by omega, rfl, rfl, by rw [part0]; exact HN.out, by rw [part0]; exact HO.out, hb⟩
      case round =>
        clear HN HO hb
        obtain ⟨j, n, A, c, hj, rfl, rfl, hn, ho, hb⟩ := hrel
        have hle := part_le 76 82 s k j
        rw [← hn] at hle
        have HN : Hid ((part 76 82 s k j).length = n) := hn.symm
        clear hn
        have hzr := hb.size
        have i0 : ∀ (w : World) (x y : Int), (Instr.index 214 (.agg #[.int .i64 x, .int .i64 y]) (.int .i64 0)).run Tryd.prog w = .ok (.int .i64 x) w := fun _ _ _ => by kernel_rfl
        have i1 : ∀ (w : World) (x y : Int), (Instr.index 214 (.agg #[.int .i64 x, .int .i64 y]) (.int .i64 1)).run Tryd.prog w = .ok (.int .i64 y) w := fun _ _ _ => by kernel_rfl
        have hj3 : j = 0 ∨ j = 1 ∨ j = 2 := by omega
        rcases hj3 with rfl | rfl | rfl
        · have hp : (part 76 82 s k (0 + 1)) = (part 76 82 s k 0) ++ clobAt 76 82 ((k : Int) - 1) s k := part1 _ _ _ _
          have HP := Lib.hid hp; clear hp
          by_cases c0 : s[k] = 76
          · have t0 := beq_t 76 rfl c0
            have H0 : Hid (cellv s k = 76) := by show _ = _; rw [HC.out]; exact c0
            clear c0
            by_cases c1 : cellv s ((k : Int) - 1) = 82
            · have t1 := beq_t 82 rfl c1
              obtain ⟨hr1, hr2⟩ := cellv_pos c1 (by decide)
              have HF : Hid (clobAt 76 82 ((k : Int) - 1) s k = [str ((s.data.toList.set k 46).set ((k : Int) - 1).toNat 76)]) := clobAt_yes H0.out c1
              clear c1
              have hset := fun wx => set_any s k ((k : Int) - 1) 46 76 wx (by omega) (by omega) (by omega) (by omega) (by omega)
              rw [Int.toNat_natCast] at hset
              obtain ⟨r, hr⟩ : ∃ r, r = str ((s.data.toList.set k 46).set ((k : Int) - 1).toNat 76) := ⟨_, rfl⟩
              rw [← hr] at hset HF
              have HS := Lib.hid hset; clear hset hr
              go_wp2_with (first | (go_at_call 199; refine (cell_any _ _ _ (by omega)).mono ?_; rintro e w1 ⟨rfl, rfl⟩) | (go_at_call 200; refine (HS.out _).mono ?_; rintro e w2 ⟨rfl, hb2⟩; have hz2 := hb2.size; have ho := ho.below hb2) | (at_builtin; refine append_str rfl _ _ rfl w.heap.size _ (part 76 82 s k 0) rfl (ho.below ((Below.refl _ _).alloc (Nat.le_refl _) _)) _ r rfl ((Blk.new _ _ _).cell 0) (by rw [HN.out]; omega) (by simp; omega) ?_; intro A2 c2 w3 ho3 hb3 hg3; rw [HN.out] at ho3 ⊢))
              go_roundw
              case rel => exact ⟨0 + 1, n + 1, A2, c2, by omega, rfl, rfl, by rw [HP.out, HF.out, List.length_append, HN.out]; rfl, by rw [HP.out, HF.out]; exact ho3, hb.trans ((hb2.mono hzr).trans (((Below.refl _ _).alloc (Nat.le_trans hzr hz2) _).trans hb3))⟩
              case measure => simp [intOf]
            · have t1 := beq_f 82 rfl c1
              have HF : Hid (clobAt 76 82 ((k : Int) - 1) s k = []) := clobAt_no fun h => c1 h.2
              have HO := Lib.hid ho; clear ho c1
              go_wp2_with (go_at_call 199; refine (cell_any _ _ _ (by omega)).mono ?_; rintro e w1 ⟨rfl, rfl⟩)
              go_roundw
              case rel => exact ⟨0 + 1, n, A, c, by omega, rfl, rfl, by rw [HP.out, HF.out, List.append_nil, HN.out], by rw [HP.out, HF.out, List.append_nil]; exact HO.out, hb⟩
              case measure => simp [intOf]
          · have t0 := beq_f 76 rfl c0
            have HF : Hid (clobAt 76 82 ((k : Int) - 1) s k = []) := clobAt_no fun h => c0 (by rw [← HC.out]; exact h.1)
            have HO := Lib.hid ho; clear ho c0
            go_wp2_with (go_at_call 199; refine (cell_any _ _ _ (by omega)).mono ?_; rintro e w1 ⟨rfl, rfl⟩)
            go_roundw
            case rel => exact ⟨0 + 1, n, A, c, by omega, rfl, rfl, by rw [HP.out, HF.out, List.append_nil, HN.out], by rw [HP.out, HF.out, List.append_nil]; exact HO.out, hb⟩
            case measure => simp [intOf]
        · have hp : (part 76 82 s k (1 + 1)) = (part 76 82 s k 1) ++ clobAt 76 82 ((k : Int) + 1) s k := part2 _ _ _ _
          have HP := Lib.hid hp; clear hp
          by_cases c0 : s[k] = 76
          · have t0 := beq_t 76 rfl c0
            have H0 : Hid (cellv s k = 76) := by show _ = _; rw [HC.out]; exact c0
            clear c0
            by_cases c1 : cellv s ((k : Int) + 1) = 82
            · have t1 := beq_t 82 rfl c1
              obtain ⟨hr1, hr2⟩ := cellv_pos c1 (by decide)
              have HF : Hid (clobAt 76 82 ((k : Int) + 1) s k = [str ((s.data.toList.set k 46).set ((k : Int) + 1).toNat 76)]) := clobAt_yes H0.out c1
              clear c1
              have hset := fun wx => set_any s k ((k : Int) + 1) 46 76 wx (by omega) (by omega) (by omega) (by omega) (by omega)
              rw [Int.toNat_natCast] at hset
              obtain ⟨r, hr⟩ : ∃ r, r = str ((s.data.toList.set k 46).set ((k : Int) + 1).toNat 76) := ⟨_, rfl⟩
              rw [← hr] at hset HF
              have HS := Lib.hid hset; clear hset hr
              go_wp2_with (first | (go_at_call 199; refine (cell_any _ _ _ (by omega)).mono ?_; rintro e w1 ⟨rfl, rfl⟩) | (go_at_call 200; refine (HS.out _).mono ?_; rintro e w2 ⟨rfl, hb2⟩; have hz2 := hb2.size; have ho := ho.below hb2) | (at_builtin; refine append_str rfl _ _ rfl w.heap.size _ (part 76 82 s k 1) rfl (ho.below ((Below.refl _ _).alloc (Nat.le_refl _) _)) _ r rfl ((Blk.new _ _ _).cell 0) (by rw [HN.out]; omega) (by simp; omega) ?_; intro A2 c2 w3 ho3 hb3 hg3; rw [HN.out] at ho3 ⊢))
              go_roundw
              case rel => exact ⟨1 + 1, n + 1, A2, c2, by omega, rfl, rfl, by rw [HP.out, HF.out, List.length_append, HN.out]; rfl, by rw [HP.out, HF.out]; exact ho3, hb.trans ((hb2.mono hzr).trans (((Below.refl _ _).alloc (Nat.le_trans hzr hz2) _).trans hb3))⟩
              case measure => simp [intOf]
            · have t1 := beq_f 82 rfl c1
              have HF : Hid (clobAt 76 82 ((k : Int) + 1) s k = []) := clobAt_no fun h => c1 h.2
              have HO := Lib.hid ho; clear ho c1
              go_wp2_with (go_at_call 199; refine (cell_any _ _ _ (by omega)).mono ?_; rintro e w1 ⟨rfl, rfl⟩)
              go_roundw
              case rel => exact ⟨1 + 1, n, A, c, by omega, rfl, rfl, by rw [HP.out, HF.out, List.append_nil, HN.out], by rw [HP.out, HF.out, List.append_nil]; exact HO.out, hb⟩
              case measure => simp [intOf]
          · have t0 := beq_f 76 rfl c0
            have HF : Hid (clobAt 76 82 ((k : Int) + 1) s k = []) := clobAt_no fun h => c0 (by rw [← HC.out]; exact h.1)
            have HO := Lib.hid ho; clear ho c0
            go_wp2_with (go_at_call 199; refine (cell_any _ _ _ (by omega)).mono ?_; rintro e w1 ⟨rfl, rfl⟩)
            go_roundw
            case rel => exact ⟨1 + 1, n, A, c, by omega, rfl, rfl, by rw [HP.out, HF.out, List.append_nil, HN.out], by rw [HP.out, HF.out, List.append_nil]; exact HO.out, hb⟩
            case measure => simp [intOf]
        · have HO := Lib.hid ho; clear ho
          go_wp2
          go_roundw
          case rel => exact ⟨k + 1, n, A, c, by go_num, by omega, rfl, by rw [← part3, HN.out], by rw [← part3]; exact HO.out, hb⟩
          case measure => simp [intOf]; omega
    · obtain rfl : k = s.size := by omega
      have HO := Lib.hid ho; clear ho
      go_wp2
      go_ret
      exact RetS.mk HO.out hn hb

set_option maxHeartbeats 1600000 in
theorem clobR_any (s : ByteArray) (w : World) (hs : s.size ≤ 12) :
    Calls Tryd.prog 159 #[.string s, .bool false] w (RetS w (acc (clobBoth 82 76 s) s.size)) := by
  go_enter Tryd.func159, Tryd.ntmps159
  go_wp2_with (go_at_call 157; refine (sidesR_any _).mono ?_; rintro e w1 ⟨rfl, rfl⟩)
  go_loopw [7, 8, 10, 19, 27] (fun v i' x i y wr => ∃ (k n : Nat) (A : Option Addr) (c : Nat), i = .int .i64 k ∧ k ≤ s.size ∧ v = .slice A n c ∧ n = (acc (clobBoth 82 76 s) k).length ∧ Own wr w.heap.size 9 (.slice A n c) (scells (acc (clobBoth 82 76 s) k)) ∧ Below w.heap.size w wr) (fun _ _ _ i _ _ => s.size - (intOf i).toNat)
  case atStart => exact ⟨0, 0, _, _, rfl, by omega, rfl, rfl, Own.empty _ 9 _ _ (Nat.le_refl _), (Below.refl _ _).alloc (Nat.le_refl _) _⟩
  case round =>
    obtain ⟨k, n, A, c, rfl, hk, rfl, hn, ho, hb⟩ := hrel
    obtain ⟨wo, rfl⟩ : ∃ wo : World, wo = wr := ⟨_, rfl⟩
    by_cases hlt : k < s.size
    · have HC := Lib.hid (cellv_in hlt)
      have HN := Lib.hid hn; have HO := Lib.hid ho; clear hn ho
      go_wp2
      go_loopw [7, 10, 27] (fun v x y wr => ∃ (j n : Nat) (A : Option Addr) (c : Nat), j ≤ 2 ∧ y = .int .i64 j ∧ v = .slice A n c ∧ n = (part 82 76 s k j).length ∧ Own wr w.heap.size 9 (.slice A n c) (scells (part 82 76 s k j)) ∧ Below w.heap.size w wr) (fun _ _ y _ => 2 - (intOf y).toNat)
      case atStart => exact ⟨0, n, A, c, by omega, rfl, rfl, by rw [part0]; exact HN.out, by rw [part0]; exact HO.out, hb⟩
      case round =>
        clear HN HO hb
        obtain ⟨j, n, A, c, hj, rfl, rfl, hn, ho, hb⟩ := hrel
        have hle := part_le 82 76 s k j
        rw [← hn] at hle
        have HN : Hid ((part 82 76 s k j).length = n) := hn.symm
        clear hn
        have hzr := hb.size
        have i0 : ∀ (w : World) (x y : Int), (Instr.index 214 (.agg #[.int .i64 x, .int .i64 y]) (.int .i64 0)).run Tryd.prog w = .ok (.int .i64 x) w := fun _ _ _ => by kernel_rfl
        have i1 : ∀ (w : World) (x y : Int), (Instr.index 214 (.agg #[.int .i64 x, .int .i64 y]) (.int .i64 1)).run Tryd.prog w = .ok (.int .i64 y) w := fun _ _ _ => by kernel_rfl
        have hj3 : j = 0 ∨ j = 1 ∨ j = 2 := by omega
        rcases hj3 with rfl | rfl | rfl
        · have hp : (part 82 76 s k (0 + 1)) = (part 82 76 s k 0) ++ clobAt 82 76 ((k : Int) - 1) s k := part1 _ _ _ _
          have HP := Lib.hid hp; clear hp
          by_cases c0 : s[k] = 82
          · have t0 := beq_t 82 rfl c0
            have H0 : Hid (cellv s k = 82) := by show _ = _; rw [HC.out]; exact c0
            clear c0
            by_cases c1 : cellv s ((k : Int) - 1) = 76
            · have t1 := beq_t 76 rfl c1
              obtain ⟨hr1, hr2⟩ := cellv_pos c1 (by decide)
              have HF : Hid (clobAt 82 76 ((k : Int) - 1) s k = [str ((s.data.toList.set k 46).set ((k : Int) - 1).toNat 82)]) := clobAt_yes H0.out c1
              clear c1
              have hset := fun wx => set_any s k ((k : Int) - 1) 46 82 wx (by omega) (by omega) (by omega) (by omega) (by omega)
              rw [Int.toNat_natCast] at hset
              obtain ⟨r, hr⟩ : ∃ r, r = str ((s.data.toList.set k 46).set ((k : Int) - 1).toNat 82) := ⟨_, rfl⟩
              rw [← hr] at hset HF
              have HS := Lib.hid hset; clear hset hr
              go_wp2_with (first | (go_at_call 199; refine (cell_any _ _ _ (by omega)).mono ?_; rintro e w1 ⟨rfl, rfl⟩) | (go_at_call 200; refine (HS.out _).mono ?_; rintro e w2 ⟨rfl, hb2⟩; have hz2 := hb2.size; have ho := ho.below hb2) | (at_builtin; refine append_str rfl _ _ rfl w.heap.size _ (part 82 76 s k 0) rfl (ho.below ((Below.refl _ _).alloc (Nat.le_refl _) _)) _ r rfl ((Blk.new _ _ _).cell 0) (by rw [HN.out]; omega) (by simp; omega) ?_; intro A2 c2 w3 ho3 hb3 hg3; rw [HN.out] at ho3 ⊢))
              go_roundw
              case rel => exact ⟨0 + 1, n + 1, A2, c2, by omega, rfl, rfl, by rw [HP.out, HF.out, List.length_append, HN.out]; rfl, by rw [HP.out, HF.out]; exact ho3, hb.trans ((hb2.mono hzr).trans (((Below.refl _ _).alloc (Nat.le_trans hzr hz2) _).trans hb3))⟩
              case measure => simp [intOf]
            · have t1 := beq_f 76 rfl c1
              have HF : Hid (clobAt 82 76 ((k : Int) - 1) s k = []) := clobAt_no fun h => c1 h.2
              have HO := Lib.hid ho; clear ho c1
              go_wp2_with (go_at_call 199; refine (cell_any _ _ _ (by omega)).mono ?_; rintro e w1 ⟨rfl, rfl⟩)
              go_roundw
              case rel => exact ⟨0 + 1, n, A, c, by omega, rfl, rfl, by rw [HP.out, HF.out, List.append_nil, HN.out], by rw [HP.out, HF.out, List.append_nil]; exact HO.out, hb⟩
              case measure => simp [intOf]
          · have t0 := beq_f 82 rfl c0
            have HF : Hid (clobAt 82 76 ((k : Int) - 1) s k = []) := clobAt_no fun h => c0 (by rw [← HC.out]; exact h.1)
            have HO := Lib.hid ho; clear ho c0
            go_wp2_with (go_at_call 199; refine (cell_any _ _ _ (by omega)).mono ?_; rintro e w1 ⟨rfl, rfl⟩)
            go_roundw
            case rel => exact ⟨0 + 1, n, A, c, by omega, rfl, rfl, by rw [HP.out, HF.out, List.append_nil, HN.out], by rw [HP.out, HF.out, List.append_nil]; exact HO.out, hb⟩
            case measure => simp [intOf]
        · have hp : (part 82 76 s k (1 + 1)) = (part 82 76 s k 1) ++ clobAt 82 76 ((k : Int) + 1) s k := part2 _ _ _ _
          have HP := Lib.hid hp; clear hp
          by_cases c0 : s[k] = 82
          · have t0 := beq_t 82 rfl c0
            have H0 : Hid (cellv s k = 82) := by show _ = _; rw [HC.out]; exact c0
            clear c0
            by_cases c1 : cellv s ((k : Int) + 1) = 76
            · have t1 := beq_t 76 rfl c1
              obtain ⟨hr1, hr2⟩ := cellv_pos c1 (by decide)
              have HF : Hid (clobAt 82 76 ((k : Int) + 1) s k = [str ((s.data.toList.set k 46).set ((k : Int) + 1).toNat 82)]) := clobAt_yes H0.out c1
              clear c1
              have hset := fun wx => set_any s k ((k : Int) + 1) 46 82 wx (by omega) (by omega) (by omega) (by omega) (by omega)
              rw [Int.toNat_natCast] at hset
              obtain ⟨r, hr⟩ : ∃ r, r = str ((s.data.toList.set k 46).set ((k : Int) + 1).toNat 82) := ⟨_, rfl⟩
              rw [← hr] at hset HF
              have HS := Lib.hid hset; clear hset hr
              go_wp2_with (first | (go_at_call 199; refine (cell_any _ _ _ (by omega)).mono ?_; rintro e w1 ⟨rfl, rfl⟩) | (go_at_call 200; refine (HS.out _).mono ?_; rintro e w2 ⟨rfl, hb2⟩; have hz2 := hb2.size; have ho := ho.below hb2) | (at_builtin; refine append_str rfl _ _ rfl w.heap.size _ (part 82 76 s k 1) rfl (ho.below ((Below.refl _ _).alloc (Nat.le_refl _) _)) _ r rfl ((Blk.new _ _ _).cell 0) (by rw [HN.out]; omega) (by simp; omega) ?_; intro A2 c2 w3 ho3 hb3 hg3; rw [HN.out] at ho3 ⊢))
              go_roundw
              case rel => exact ⟨1 + 1, n + 1, A2, c2, by omega, rfl, rfl, by rw [HP.out, HF.out, List.length_append, HN.out]; rfl, by rw [HP.out, HF.out]; exact ho3, hb.trans ((hb2.mono hzr).trans (((Below.refl _ _).alloc (Nat.le_trans hzr hz2) _).trans hb3))⟩
              case measure => simp [intOf]
            · have t1 := beq_f 76 rfl c1
              have HF : Hid (clobAt 82 76 ((k : Int) + 1) s k = []) := clobAt_no fun h => c1 h.2
              have HO := Lib.hid ho; clear ho c1
              go_wp2_with (go_at_call 199; refine (cell_any _ _ _ (by omega)).mono ?_; rintro e w1 ⟨rfl, rfl⟩)
              go_roundw
              case rel => exact ⟨1 + 1, n, A, c, by omega, rfl, rfl, by rw [HP.out, HF.out, List.append_nil, HN.out], by rw [HP.out, HF.out, List.append_nil]; exact HO.out, hb⟩
              case measure => simp [intOf]
          · have t0 := beq_f 82 rfl c0
            have HF : Hid (clobAt 82 76 ((k : Int) + 1) s k = []) := clobAt_no fun h => c0 (by rw [← HC.out]; exact h.1)
            have HO := Lib.hid ho; clear ho c0
            go_wp2_with (go_at_call 199; refine (cell_any _ _ _ (by omega)).mono ?_; rintro e w1 ⟨rfl, rfl⟩)
            go_roundw
            case rel => exact ⟨1 + 1, n, A, c, by omega, rfl, rfl, by rw [HP.out, HF.out, List.append_nil, HN.out], by rw [HP.out, HF.out, List.append_nil]; exact HO.out, hb⟩
            case measure => simp [intOf]
        · have HO := Lib.hid ho; clear ho
          go_wp2
          go_roundw
          case rel => exact ⟨k + 1, n, A, c, by go_num, by omega, rfl, by rw [← part3, HN.out], by rw [← part3]; exact HO.out, hb⟩
          case measure => simp [intOf]; omega
    · obtain rfl : k = s.size := by omega
      have HO := Lib.hid ho; clear ho
      go_wp2
      go_ret
      exact RetS.mk HO.out hn hb
end Go.Proofs.YtadljglcbieifaaDoor
