/- The runs of empty places of a strip: the program's and the reference's, by contracts. Conditions: none. -/
import Derived.Test.YtgnlnemhlikfnaaDoorSMoves
import Derived.Test.YtgnlnemhlikfnaaDoorRead
namespace Go.Proofs.YtgnlnemhlikfnaaDoor
open Go.RowKit
set_option linter.unusedVariables false

/-- The first place from k on that is not empty. -/
def endR (s : ByteArray) (k : Nat) : Nat := k + ((s.data.toList.drop k).takeWhile (· == 46)).length
def startR (s : ByteArray) (k : Nat) : Prop := s.data.toList[k]? = some 46 ∧ (k = 0 ∨ ¬ s.data.toList[k - 1]? = some 46)
instance (s : ByteArray) (k : Nat) : Decidable (startR s k) := by unfold startR; infer_instance
def runAt (s : ByteArray) (k : Nat) : List ByteArray := if startR s k then [s.extract (k - 1) (min s.size (endR s k + 1))] else []
theorem runAt_le (s : ByteArray) (k : Nat) : (runAt s k).length ≤ 1 := by unfold runAt; split <;> simp
theorem takeWhile_len (l : List UInt8) (n : Nat) (h1 : ∀ j, j < n → l[j]? = some 46) (h2 : ¬ l[n]? = some 46) : (l.takeWhile (· == 46)).length = n := by
  induction l generalizing n with
  | nil =>
    cases n with
    | zero => rfl
    | succ n => have := h1 0 (by omega); simp at this
  | cons b l ih =>
    cases n with
    | zero => simp at h2; simp [h2]
    | succ n =>
      have h0 := h1 0 (by omega)
      simp at h0
      have := ih n (fun j hj => by have := h1 (j + 1) (by omega); simpa using this) (by simpa using h2)
      simp [h0, this]
theorem endR_of (s : ByteArray) (k m : Nat) (hk : k ≤ m) (h1 : ∀ j, k ≤ j → j < m → s.data.toList[j]? = some 46) (h2 : ¬ s.data.toList[m]? = some 46) : endR s k = m := by
  unfold endR
  rw [takeWhile_len _ (m - k) (fun j hj => by rw [List.getElem?_drop]; exact h1 _ (by omega) (by omega)) (by rw [List.getElem?_drop, Nat.add_sub_cancel' hk]; exact h2)]
  omega
theorem acc_skip (s : ByteArray) (k m : Nat) (hk : k < m) (h1 : ∀ j, k ≤ j → j < m → s.data.toList[j]? = some 46) : acc (runAt s) m = acc (runAt s) (k + 1) := by
  obtain ⟨d, rfl⟩ : ∃ d, m = k + 1 + d := ⟨m - (k + 1), by omega⟩
  induction d with
  | zero => rfl
  | succ d ih =>
    have h := ih (by omega) (fun j a b => h1 j a (by omega))
    rw [show k + 1 + (d + 1) = (k + 1 + d) + 1 from rfl, acc_succ, h]
    have hn : ¬ startR s (k + 1 + d) := fun hs => by
      rcases hs.2 with h0 | h0
      · omega
      · exact h0 (h1 _ (by omega) (by omega))
    rw [runAt, if_neg hn, List.append_nil]
theorem at46 (s : ByteArray) (k : Nat) (h : k < s.size) : (s.data.toList[k]? = some 46) ↔ s[k] = 46 := by
  rw [byte_data s k h]
  exact ⟨fun e => by injection e, fun e => by rw [e]⟩
theorem past46 (s : ByteArray) (k : Nat) (h : s.size ≤ k) : ¬ s.data.toList[k]? = some 46 := by
  rw [List.getElem?_eq_none (by rw [data_len]; exact h)]; simp
def runsL (s : ByteArray) : List ByteArray := acc (runAt s) s.size
theorem runsL_le (s : ByteArray) : (runsL s).length ≤ s.size := by
  have := acc_le (runAt s) 1 (runAt_le s) s.size
  unfold runsL; omega

set_option maxHeartbeats 1600000 in
theorem runsI_any (s : ByteArray) (w : World) (hs : s.size ≤ 1000000) :
    Calls Tryd.prog 124 #[.string s] w (RetS w (runsL s)) := by
  go_enter Tryd.func124, Tryd.ntmps124
  go_wp2
  go_loopw [3, 4, 5] (fun v i _ wr => ∃ (k : Nat) (A' : Option Addr) (c' n : Nat), i = .int .i64 k ∧ k ≤ s.size ∧ (s.data.toList[k]? = some 46 → startR s k) ∧ n = (acc (runAt s) k).length ∧ v = .slice A' n c' ∧ Own wr w.heap.size 9 (.slice A' n c') (scells (acc (runAt s) k)) ∧ Below w.heap.size w wr) (fun _ i _ _ => s.size - (intOf i).toNat)
  case atStart => exact ⟨0, _, _, 0, rfl, by omega, fun h => ⟨h, .inl rfl⟩, rfl, rfl, Own.empty w 9 _ _ (Nat.le_refl _), bel1 _ _⟩
  case round =>
    obtain ⟨k, A', c', n, rfl, hk, hst, hn, rfl, ho, hb⟩ := hrel
    have hnl := acc_le (runAt s) 1 (runAt_le s) k
    rw [← hn] at hnl
    have HST := Lib.hid hst; clear hst
    have HN := Lib.hid hn; clear hn
    have HO := Lib.hid ho; clear ho
    have hzr := hb.size
    by_cases hlt : k < s.size
    · by_cases hc : s[k] = 46
      · have hbq : ((s[k].toNat : Int) != 46) = false := bne_f 46 rfl hc
        have HSR := Lib.hid (HST.out ((at46 s k hlt).2 hc))
        have HC := Lib.hid hc; clear hc
        go_wp2
        go_loop [5] (fun j => ∃ m : Nat, j = .int .i64 m ∧ k ≤ m ∧ m ≤ s.size ∧ (∀ q, k ≤ q → q < m → s.data.toList[q]? = some 46)) (fun j => s.size - (intOf j).toNat)
        case atStart => exact ⟨k, rfl, Nat.le_refl _, by omega, fun q a b => absurd b (by omega)⟩
        case round =>
          obtain ⟨m, rfl, hkm, hms, hall⟩ := hrel
          have HALL := Lib.hid hall; clear hall
          have tail : ∀ (hx : ¬ s.data.toList[m]? = some 46), k < m ∧ runAt s k = [s.extract (k - 1) (min s.size (m + 1))] ∧ acc (runAt s) m = acc (runAt s) k ++ [s.extract (k - 1) (min s.size (m + 1))] := by
            intro hx
            have hkm' : k < m := by
              rcases Nat.lt_or_ge k m with h | h
              · exact h
              · exact absurd ((at46 s k hlt).2 HC.out) (by rw [show k = m by omega]; exact hx)
            have he := endR_of s k m hkm HALL.out hx
            have hr : runAt s k = [s.extract (k - 1) (min s.size (m + 1))] := by rw [runAt, if_pos HSR.out, he]
            exact ⟨hkm', hr, by rw [acc_skip s k m hkm' HALL.out, acc_succ, hr]⟩
          have TAIL := Lib.hid tail; clear tail
          by_cases hml : m < s.size
          · by_cases hd : s[m] = 46
            · have hbq2 : ((s[m].toNat : Int) == 46) = true := beq_t 46 rfl hd
              have hd' := (at46 s m hml).2 hd
              have HD := Lib.hid hd'; clear hd hd'
              go_wp2
              go_round
              case rel => exact ⟨m + 1, by go_num, by omega, by omega, fun q a b => by
                rcases Nat.lt_or_ge q m with h | h
                · exact HALL.out q a h
                · rw [show q = m by omega]; exact HD.out⟩
              case measure => simp [intOf]; omega
            · have hbq2 : ((s[m].toNat : Int) == 46) = false := beq_f 46 rfl hd
              have hx : ¬ s.data.toList[m]? = some 46 := fun h => hd ((at46 s m hml).1 h)
              obtain ⟨t1, t2, t3⟩ := TAIL.out hx
              have HX := Lib.hid hx; have HT3 := Lib.hid t3
              clear hx t2 t3 hd
              have HE : Hid ((s.extract (max 0 ((k : Int) - 1)).toNat (min (s.size : Int) ((m : Int) + 1)).toNat) = s.extract (k - 1) (min s.size (m + 1))) := by
                have a1 : (max 0 ((k : Int) - 1)).toNat = k - 1 := by omega
                have a2 : (min (s.size : Int) ((m : Int) + 1)).toNat = min s.size (m + 1) := by omega
                show _ = _
                rw [a1, a2]
              have HL : Hid (n + 1 = (acc (runAt s) m).length) := by show _ = _; rw [HT3.out, List.length_append, ← HN.out]; rfl
              go_wp2_with (at_builtin; refine append_str rfl _ _ rfl w.heap.size _ (acc (runAt s) k) rfl (HO.out.below (bel1 _ _)) _ _ rfl ((Blk.new _ _ _).cell 0) (by rw [← HN.out]; omega) (by simp; omega) ?_; intro A5 c5 w5 ho5 hb5 hg5; rw [HE.out, ← HT3.out, ← HN.out] at ho5; rw [← HN.out])
              have HO5 := Lib.hid ho5; clear ho5
              go_roundw
              case rel => exact ⟨m, A5, c5, n + 1, rfl, by omega, fun h => absurd h HX.out, HL.out, rfl, HO5.out, (hb.alloc hb.size _).trans hb5⟩
              case measure => simp [intOf]; omega
          · obtain rfl : m = s.size := by omega
            have hx := past46 s s.size (Nat.le_refl _)
            obtain ⟨t1, t2, t3⟩ := TAIL.out hx
            have HX := Lib.hid hx; have HT3 := Lib.hid t3
            clear hx t2 t3
            have HE : Hid ((s.extract (max 0 ((k : Int) - 1)).toNat (min (s.size : Int) ((s.size : Int) + 1)).toNat) = s.extract (k - 1) (min s.size (s.size + 1))) := by
              have a1 : (max 0 ((k : Int) - 1)).toNat = k - 1 := by omega
              have a2 : (min (s.size : Int) ((s.size : Int) + 1)).toNat = min s.size (s.size + 1) := by omega
              show _ = _
              rw [a1, a2]
            have HL : Hid (n + 1 = (acc (runAt s) s.size).length) := by show _ = _; rw [HT3.out, List.length_append, ← HN.out]; rfl
            go_wp2_with (at_builtin; refine append_str rfl _ _ rfl w.heap.size _ (acc (runAt s) k) rfl (HO.out.below (bel1 _ _)) _ _ rfl ((Blk.new _ _ _).cell 0) (by rw [← HN.out]; omega) (by simp; omega) ?_; intro A5 c5 w5 ho5 hb5 hg5; rw [HE.out, ← HT3.out, ← HN.out] at ho5; rw [← HN.out])
            have HO5 := Lib.hid ho5; clear ho5
            go_roundw
            case rel => exact ⟨s.size, A5, c5, n + 1, rfl, by omega, fun h => absurd h HX.out, HL.out, rfl, HO5.out, (hb.alloc hb.size _).trans hb5⟩
            case measure => simp [intOf]; omega
      · have hbq : ((s[k].toNat : Int) != 46) = true := bne_t 46 rfl hc
        have hx : ¬ s.data.toList[k]? = some 46 := fun h => hc ((at46 s k hlt).1 h)
        have hr : runAt s k = [] := by rw [runAt, if_neg (fun h => hx h.1)]
        have HR := Lib.hid (acc_nil (f := runAt s) hr)
        have HX := Lib.hid hx
        clear hc hx hr
        go_wp2
        go_roundw
        case rel => exact ⟨k + 1, A', c', n, by go_num, by omega, fun h => ⟨h, .inr (by rw [Nat.add_sub_cancel]; exact HX.out)⟩, by rw [← HR.out]; exact HN.out, rfl, by rw [← HR.out]; exact HO.out, hb⟩
        case measure => simp [intOf]; omega
    · obtain rfl : k = s.size := by omega
      go_wp2
      go_ret
      exact RetS.mk HO.out HN.out hb
end Go.Proofs.YtgnlnemhlikfnaaDoor
