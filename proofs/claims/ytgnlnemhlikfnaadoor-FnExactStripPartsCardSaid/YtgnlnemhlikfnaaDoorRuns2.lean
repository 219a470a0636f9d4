/- The raw pieces of a strip: the reference's, by contracts. Conditions: none. -/
import Derived.Test.YtgnlnemhlikfnaaDoorRuns
namespace Go.Proofs.YtgnlnemhlikfnaaDoor
open Go.RowKit
set_option linter.unusedVariables false

theorem l1Most_any (a b : Int) (w : World) : Calls Tryd.prog 107 #[.int .i64 a, .int .i64 b] w fun e w' => e = .returned (.int .i64 (max a b)) ∧ w' = w := by
  by_cases h : b < a
  · have e : max a b = a := by omega
    have HE := Lib.hid e; clear e
    go_enter Tryd.func107, Tryd.ntmps107
    go_wp2
    go_ret
    exact ⟨by rw [HE.out]; rfl, rfl⟩
  · have e : max a b = b := by omega
    have HE := Lib.hid e; clear e
    go_enter Tryd.func107, Tryd.ntmps107
    go_wp2
    go_ret
    exact ⟨by rw [HE.out]; rfl, rfl⟩
theorem l1Least_any (a b : Int) (w : World) : Calls Tryd.prog 110 #[.int .i64 a, .int .i64 b] w fun e w' => e = .returned (.int .i64 (min a b)) ∧ w' = w := by
  by_cases h : a < b
  · have e : min a b = a := by omega
    have HE := Lib.hid e; clear e
    go_enter Tryd.func110, Tryd.ntmps110
    go_wp2
    go_ret
    exact ⟨by rw [HE.out]; rfl, rfl⟩
  · have e : min a b = b := by omega
    have HE := Lib.hid e; clear e
    go_enter Tryd.func110, Tryd.ntmps110
    go_wp2
    go_ret
    exact ⟨by rw [HE.out]; rfl, rfl⟩

/-- The pieces of a strip, the dead ones with them. -/
def rawL (kind : Int) (s : ByteArray) : List ByteArray := if kind = 0 then [s] else if kind = 1 then pieces 46 s else runsL s

set_option maxHeartbeats 1600000 in
theorem rawS_any (kind : Int) (s : ByteArray) (w : World) (hs : s.size ≤ 1000000) :
    Calls Tryd.prog 122 #[.int .i64 kind, .string s] w (RetS w (rawL kind s)) := by
  by_cases hk0 : kind = 0
  · have HT : Hid (rawL kind s = [s]) := if_pos hk0
    subst hk0
    go_enter Tryd.func122, Tryd.ntmps122
    go_wp2
    have HO : Hid (Own (w.alloc (.cells #[.string s] 9)) w.heap.size 9 (.slice (some ⟨w.heap.size, 0, none⟩) 1 1) (scells [s])) := Own.new w w.heap.size 9 [.string s] (Nat.le_refl _) (by simp)
    have HB : Hid (Below w.heap.size w (w.alloc (.cells #[.string s] 9))) := bel1 _ _
    go_ret
    rw [HT.out]
    exact RetS.mk HO.out rfl HB.out
  · by_cases hk1 : kind = 1
    · have HT : Hid (rawL kind s = pieces 46 s) := by show _ = _; rw [rawL, if_neg hk0, if_pos hk1]
      subst hk1
      have hSp : ∀ w, Calls Tryd.prog 86 #[.string s, .int .u8 46] w fun e w' => ∃ A c', e = .returned (.slice A (pieces 46 s).length c') ∧ Own w' w.heap.size 9 (.slice A (pieces 46 s).length c') (scells (pieces 46 s)) ∧ Below w.heap.size w w' := fun w => l1Split_any 46 s w (by omega)
      go_enter Tryd.func122, Tryd.ntmps122
      go_wp2_with fail
      refine (hSp w).mono ?_; rintro e w1 ⟨A, c', rfl, ho, hb⟩
      have HO := Lib.hid ho; clear ho
      go_wp2
      go_ret
      rw [HT.out]
      exact RetS.mk HO.out rfl hb
    · have HT : Hid (rawL kind s = runsL s) := by show _ = _; rw [rawL, if_neg hk0, if_neg hk1]
      have hk0' : (kind == 0) = false := by simp [hk0]
      have hk1' : (kind == 1) = false := by simp [hk1]
      clear hk0 hk1
      go_enter Tryd.func122, Tryd.ntmps122
      go_wp2
      go_loopw [5, 6, 7] (fun v i _ wr => ∃ (k : Nat) (A' : Option Addr) (c' n : Nat), i = .int .i64 k ∧ k ≤ s.size ∧ n = (acc (runAt s) k).length ∧ v = .slice A' n c' ∧ Own wr w.heap.size 9 (.slice A' n c') (scells (acc (runAt s) k)) ∧ Below w.heap.size w wr) (fun _ i _ _ => s.size - (intOf i).toNat)
      case atStart => exact ⟨0, _, _, 0, rfl, by omega, rfl, rfl, Own.empty w 9 _ _ (Nat.le_refl _), bel1 _ _⟩
      case round =>
        obtain ⟨k, A', c', n, rfl, hk, hn, rfl, ho, hb⟩ := hrel
        have hnl := acc_le (runAt s) 1 (runAt_le s) k
        rw [← hn] at hnl
        have HN := Lib.hid hn; clear hn
        have HO := Lib.hid ho; clear ho
        have hzr := hb.size
        by_cases hlt : k < s.size
        · by_cases hc : s[k] = 46
          · have hbq : ((s[k].toNat : Int) != 46) = false := bne_f 46 rfl hc
            have hc46 := (at46 s k hlt).2 hc
            have HC46 := Lib.hid hc46; clear hc46 hc
            by_cases hkz : k = 0
            · have hst0 : startR s k := ⟨HC46.out, .inl hkz⟩
              have HSR := Lib.hid hst0
              have hpos : ¬ (0 : Int) < (k : Int) := by omega
              clear hkz
              clear hst0
              go_wp2
              go_loop [7] (fun j => ∃ m : Nat, j = .int .i64 m ∧ k ≤ m ∧ m ≤ s.size ∧ (∀ q, k ≤ q → q < m → s.data.toList[q]? = some 46)) (fun j => s.size - (intOf j).toNat)
              case atStart => exact ⟨k, rfl, Nat.le_refl _, by omega, fun q a b => absurd b (by omega)⟩
              case round =>
                obtain ⟨m, rfl, hkm, hms, hall⟩ := hrel
                have HALL := Lib.hid hall; clear hall
                have tail : ∀ (hx : ¬ s.data.toList[m]? = some 46), acc (runAt s) (k + 1) = acc (runAt s) k ++ [s.extract (k - 1) (min s.size (m + 1))] := by
                  intro hx
                  have he := endR_of s k m hkm HALL.out hx
                  rw [acc_succ, runAt, if_pos HSR.out, he]
                have TAIL := Lib.hid tail; clear tail
                by_cases hml : m < s.size
                · by_cases hd : s[m] = 46
                  · have hbq2 : ((s[m].toNat : Int) == 46) = true := beq_t 46 rfl hd
                    have hd' := (at46 s m hml).2 hd
                    have HD := Lib.hid hd'; clear hd hd'
                    go_wp2
                    go_round
                    case rel => exact ⟨m + 1, by go_num, by omega, by omega, fun q a b => by
                      rcases Nat.lt_or_ge q m with h | h
                      · exact HALL.out q a h
                      · rw [show q = m by omega]; exact HD.out⟩
                    case measure => simp [intOf]; omega
                  · have hbq2 : ((s[m].toNat : Int) == 46) = false := beq_f 46 rfl hd
                    have hx : ¬ s.data.toList[m]? = some 46 := fun h => hd ((at46 s m hml).1 h)
                    have HT3 := Lib.hid (TAIL.out hx)
                    clear hx hd
                    have HE : Hid ((s.extract (max ((k : Int) - 1) 0).toNat (min ((m : Int) + 1) (s.size : Int)).toNat) = s.extract (k - 1) (min s.size (m + 1))) := by
                      have a1 : (max ((k : Int) - 1) 0).toNat = k - 1 := by omega
                      have a2 : (min ((m : Int) + 1) (s.size : Int)).toNat = min s.size (m + 1) := by omega
                      show _ = _
                      rw [a1, a2]
                    have HL : Hid (n + 1 = (acc (runAt s) (k + 1)).length) := by show _ = _; rw [HT3.out, List.length_append, ← HN.out]; rfl
                    go_wp2_with (first | (go_at_call 107; (with_reducible refine (l1Most_any _ _ _).mono ?_); rintro e w1 ⟨rfl, rfl⟩) | (go_at_call 110; (with_reducible refine (l1Least_any _ _ _).mono ?_); rintro e w1 ⟨rfl, rfl⟩) | (at_builtin; refine append_str rfl _ _ rfl w.heap.size _ (acc (runAt s) k) rfl (HO.out.below (bel1 _ _)) _ _ rfl ((Blk.new _ _ _).cell 0) (by rw [← HN.out]; omega) (by simp; omega) ?_; intro A5 c5 w5 ho5 hb5 hg5; rw [HE.out, ← HT3.out, ← HN.out] at ho5; rw [← HN.out]))
                    have HO5 := Lib.hid ho5; clear ho5
                    go_roundw
                    case rel => exact ⟨k + 1, A5, c5, n + 1, by go_num, by omega, HL.out, rfl, HO5.out, (hb.alloc hb.size _).trans hb5⟩
                    case measure => simp [intOf]; omega
                · obtain rfl : m = s.size := by omega
                  have HT3 := Lib.hid (TAIL.out (past46 s s.size (Nat.le_refl _)))
                  have HE : Hid ((s.extract (max ((k : Int) - 1) 0).toNat (min ((s.size : Int) + 1) (s.size : Int)).toNat) = s.extract (k - 1) (min s.size (s.size + 1))) := by
                    have a1 : (max ((k : Int) - 1) 0).toNat = k - 1 := by omega
                    have a2 : (min ((s.size : Int) + 1) (s.size : Int)).toNat = min s.size (s.size + 1) := by omega
                    show _ = _
                    rw [a1, a2]
                  have HL : Hid (n + 1 = (acc (runAt s) (k + 1)).length) := by show _ = _; rw [HT3.out, List.length_append, ← HN.out]; rfl
                  go_wp2_with (first | (go_at_call 107; (with_reducible refine (l1Most_any _ _ _).mono ?_); rintro e w1 ⟨rfl, rfl⟩) | (go_at_call 110; (with_reducible refine (l1Least_any _ _ _).mono ?_); rintro e w1 ⟨rfl, rfl⟩) | (at_builtin; refine append_str rfl _ _ rfl w.heap.size _ (acc (runAt s) k) rfl (HO.out.below (bel1 _ _)) _ _ rfl ((Blk.new _ _ _).cell 0) (by rw [← HN.out]; omega) (by simp; omega) ?_; intro A5 c5 w5 ho5 hb5 hg5; rw [HE.out, ← HT3.out, ← HN.out] at ho5; rw [← HN.out]))
                  have HO5 := Lib.hid ho5; clear ho5
                  go_roundw
                  case rel => exact ⟨k + 1, A5, c5, n + 1, by go_num, by omega, HL.out, rfl, HO5.out, (hb.alloc hb.size _).trans hb5⟩
                  case measure => simp [intOf]; omega
            · have hpos : (0 : Int) < (k : Int) := by omega
              have hlt1 : k - 1 < s.size := by omega
              have hkk : ((k : Int) - 1).toNat = k - 1 := by omega
              by_cases hp : s[k - 1] = 46
              · have hbq3 : ((s[k - 1].toNat : Int) == 46) = true := beq_t 46 rfl hp
                have hr : runAt s k = [] := by rw [runAt, if_neg (fun h => by rcases h.2 with h | h; exact hkz h; exact h ((at46 s _ hlt1).2 hp))]
                have HR := Lib.hid (acc_nil (f := runAt s) hr)
                clear hr hp
                go_wp2
                go_roundw
                case rel => exact ⟨k + 1, A', c', n, by go_num, by omega, by rw [← HR.out]; exact HN.out, rfl, by rw [← HR.out]; exact HO.out, hb⟩
                case measure => simp [intOf]; omega
              · have hbq3 : ((s[k - 1].toNat : Int) == 46) = false := beq_f 46 rfl hp
                have hst0 : startR s k := ⟨HC46.out, .inr fun h => hp ((at46 s _ hlt1).1 h)⟩
                have HSR := Lib.hid hst0
                clear hp
                clear hst0
                go_wp2
                go_loop [7] (fun j => ∃ m : Nat, j = .int .i64 m ∧ k ≤ m ∧ m ≤ s.size ∧ (∀ q, k ≤ q → q < m → s.data.toList[q]? = some 46)) (fun j => s.size - (intOf j).toNat)
                case atStart => exact ⟨k, rfl, Nat.le_refl _, by omega, fun q a b => absurd b (by omega)⟩
                case round =>
                  obtain ⟨m, rfl, hkm, hms, hall⟩ := hrel
                  have HALL := Lib.hid hall; clear hall
                  have tail : ∀ (hx : ¬ s.data.toList[m]? = some 46), acc (runAt s) (k + 1) = acc (runAt s) k ++ [s.extract (k - 1) (min s.size (m + 1))] := by
                    intro hx
                    have he := endR_of s k m hkm HALL.out hx
                    rw [acc_succ, runAt, if_pos HSR.out, he]
                  have TAIL := Lib.hid tail; clear tail
                  by_cases hml : m < s.size
                  · by_cases hd : s[m] = 46
                    · have hbq2 : ((s[m].toNat : Int) == 46) = true := beq_t 46 rfl hd
                      have hd' := (at46 s m hml).2 hd
                      have HD := Lib.hid hd'; clear hd hd'
                      go_wp2
                      go_round
                      case rel => exact ⟨m + 1, by go_num, by omega, by omega, fun q a b => by
                        rcases Nat.lt_or_ge q m with h | h
                        · exact HALL.out q a h
                        · rw [show q = m by omega]; exact HD.out⟩
                      case measure => simp [intOf]; omega
                    · have hbq2 : ((s[m].toNat : Int) == 46) = false := beq_f 46 rfl hd
                      have hx : ¬ s.data.toList[m]? = some 46 := fun h => hd ((at46 s m hml).1 h)
                      have HT3 := Lib.hid (TAIL.out hx)
                      clear hx hd
                      have HE : Hid ((s.extract (max ((k : Int) - 1) 0).toNat (min ((m : Int) + 1) (s.size : Int)).toNat) = s.extract (k - 1) (min s.size (m + 1))) := by
                        have a1 : (max ((k : Int) - 1) 0).toNat = k - 1 := by omega
                        have a2 : (min ((m : Int) + 1) (s.size : Int)).toNat = min s.size (m + 1) := by omega
                        show _ = _
                        rw [a1, a2]
                      have HL : Hid (n + 1 = (acc (runAt s) (k + 1)).length) := by show _ = _; rw [HT3.out, List.length_append, ← HN.out]; rfl
                      go_wp2_with (first | (go_at_call 107; (with_reducible refine (l1Most_any _ _ _).mono ?_); rintro e w1 ⟨rfl, rfl⟩) | (go_at_call 110; (with_reducible refine (l1Least_any _ _ _).mono ?_); rintro e w1 ⟨rfl, rfl⟩) | (at_builtin; refine append_str rfl _ _ rfl w.heap.size _ (acc (runAt s) k) rfl (HO.out.below (bel1 _ _)) _ _ rfl ((Blk.new _ _ _).cell 0) (by rw [← HN.out]; omega) (by simp; omega) ?_; intro A5 c5 w5 ho5 hb5 hg5; rw [HE.out, ← HT3.out, ← HN.out] at ho5; rw [← HN.out]))
                      have HO5 := Lib.hid ho5; clear ho5
                      go_roundw
                      case rel => exact ⟨k + 1, A5, c5, n + 1, by go_num, by omega, HL.out, rfl, HO5.out, (hb.alloc hb.size _).trans hb5⟩
                      case measure => simp [intOf]; omega
                  · obtain rfl : m = s.size := by omega
                    have HT3 := Lib.hid (TAIL.out (past46 s s.size (Nat.le_refl _)))
                    have HE : Hid ((s.extract (max ((k : Int) - 1) 0).toNat (min ((s.size : Int) + 1) (s.size : Int)).toNat) = s.extract (k - 1) (min s.size (s.size + 1))) := by
                      have a1 : (max ((k : Int) - 1) 0).toNat = k - 1 := by omega
                      have a2 : (min ((s.size : Int) + 1) (s.size : Int)).toNat = min s.size (s.size + 1) := by omega
                      show _ = _
                      rw [a1, a2]
                    have HL : Hid (n + 1 = (acc (runAt s) (k + 1)).length) := by show _ = _; rw [HT3.out, List.length_append, ← HN.out]; rfl
                    go_wp2_with (first | (go_at_call 107; (with_reducible refine (l1Most_any _ _ _).mono ?_); rintro e w1 ⟨rfl, rfl⟩) | (go_at_call 110; (with_reducible refine (l1Least_any _ _ _).mono ?_); rintro e w1 ⟨rfl, rfl⟩) | (at_builtin; refine append_str rfl _ _ rfl w.heap.size _ (acc (runAt s) k) rfl (HO.out.below (bel1 _ _)) _ _ rfl ((Blk.new _ _ _).cell 0) (by rw [← HN.out]; omega) (by simp; omega) ?_; intro A5 c5 w5 ho5 hb5 hg5; rw [HE.out, ← HT3.out, ← HN.out] at ho5; rw [← HN.out]))
                    have HO5 := Lib.hid ho5; clear ho5
                    go_roundw
                    case rel => exact ⟨k + 1, A5, c5, n + 1, by go_num, by omega, HL.out, rfl, HO5.out, (hb.alloc hb.size _).trans hb5⟩
                    case measure => simp [intOf]; omega
          · have hbq : ((s[k].toNat : Int) != 46) = true := bne_t 46 rfl hc
            have hr : runAt s k = [] := by rw [runAt, if_neg (fun h => hc ((at46 s k hlt).1 h.1))]
            have HR := Lib.hid (acc_nil (f := runAt s) hr)
            clear hc hr
            go_wp2
            go_roundw
            case rel => exact ⟨k + 1, A', c', n, by go_num, by omega, by rw [← HR.out]; exact HN.out, rfl, by rw [← HR.out]; exact HO.out, hb⟩
            case measure => simp [intOf]; omega
        · obtain rfl : k = s.size := by omega
          go_wp2
          go_ret
          rw [HT.out]
          exact RetS.mk HO.out HN.out hb
end Go.Proofs.YtgnlnemhlikfnaaDoor
