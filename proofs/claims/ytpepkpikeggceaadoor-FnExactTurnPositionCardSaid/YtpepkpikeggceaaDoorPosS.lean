/- The singles of a position: the reference's, by contract. Conditions: none. -/
import Derived.Test.YtpepkpikeggceaaDoorWdA
namespace Go.Proofs.YtpepkpikeggceaaDoor
open Go.RowKit
set_option linter.unusedVariables false

theorem ownNil (w : World) (base : Nat) (E : TypeId) : Own w base E (.slice none 0 0) (scells []) := ⟨by simp [scells], Or.inl ⟨rfl, rfl⟩⟩

set_option maxHeartbeats 3200000 in
theorem singlesS_any (s : ByteArray) (w : World) (hs : s.size ≤ 1048576) :
    Calls Tryd.prog 9 #[.string s] w fun e w' => ∃ A c', e = .returned (.tuple #[.slice A (posL s).length c', .bool (posB s)]) ∧ Own w' w.heap.size 9 (.slice A (posL s).length c') (scells (posL s)) ∧ Below w.heap.size w w' := by
  cases hn : (s.toList == [110, 111, 110, 101])
  · have hn1 : (s.toList == noneL) = false := hn
    have HBAD := Lib.hid fun x (hx : x ∈ words s) (hg : sgB x = false) => pos_bad hn1 hx hg
    have HMANY := Lib.hid fun (hx : 7 ≤ (words s).length) => pos_many hn1 hx
    have HGOOD := Lib.hid fun (hx : (words s).length ≤ 6) (hg : ∀ x, x ∈ words s → sgB x = true) => pos_good hn1 hx hg
    clear hn1
    go_enter Tryd.func9, Tryd.ntmps9
    go_wp2_with fail
    go_loopw [4, 5, 6] (fun v x i wr => ∃ (k f : Nat) (A' : Option Addr) (c' : Nat) (os : List ByteArray), i = .int .i64 k ∧ k ≤ s.size + 1 ∧ x = .int .i64 f ∧ f ≤ s.size + 3 ∧ os.length ≤ 6 ∧ AtW s k f os ∧ v = .slice A' os.length c' ∧ Own wr w.heap.size 9 (.slice A' os.length c') (scells os) ∧ Below w.heap.size w wr) (fun _ _ i _ => s.size + 1 - (intOf i).toNat)
    case atStart => exact ⟨0, 0, _, _, [], rfl, by omega, rfl, by omega, by simp, AtW.start s, rfl, Own.empty w 9 _ _ (Nat.le_refl _), bel1 _ _⟩
    case round =>
      obtain ⟨k, f, A', c', os, rfl, hk, rfl, hf3, hol, hat, rfl, ho, hb⟩ := hrel
      have HA := Lib.hid hat
      have HO := Lib.hid ho
      clear ho
      have hzr := hb.size
      have hw3 : IntKind.i64.wrap ((k : Int) + 3) = (k : Int) + 3 := by rw [IntKind.wrap_i64]; omega
      by_cases hle : k ≤ s.size
      · by_cases hlt : k < s.size
        · by_cases hfk : k < f
          · have HN : Hid (AtW s (k + 1) f os) := Lib.hid (hat.skip hlt (Or.inl hfk))
            clear hat
            by_cases h3 : k + 3 ≤ s.size
            · cases hp : ((s.extract k (k + 3)).toList == [32, 43, 32])
              all_goals
                go_wp2
                go_roundw
                case rel => exact ⟨k + 1, f, A', c', os, by go_num, by omega, rfl, hf3, hol, HN.out, rfl, HO.out, hb⟩
                case measure => simp [intOf]; omega
            · go_wp2
              go_roundw
              case rel => exact ⟨k + 1, f, A', c', os, by go_num, by omega, rfl, hf3, hol, HN.out, rfl, HO.out, hb⟩
              case measure => simp [intOf]; omega
          · by_cases h3 : k + 3 ≤ s.size
            · have hsl := atP_slice h3
              cases hp : ((s.extract k (k + 3)).toList == [32, 43, 32])
              · have HN : Hid (AtW s (k + 1) f os) := Lib.hid (hat.skip hlt (Or.inr (by rw [← hsl, hp])))
                clear hat hsl
                go_wp2
                go_roundw
                case rel => exact ⟨k + 1, f, A', c', os, by go_num, by omega, rfl, hf3, hol, HN.out, rfl, HO.out, hb⟩
                case measure => simp [intOf]; omega
              · have HC : Hid (k = s.size ∨ atP s k = true) := Lib.hid (Or.inr (by rw [← hsl, hp]))
                clear hsl
                obtain ⟨hmem, hwl, hgo⟩ := hat.word hle (by omega) HC.out
                clear hat
                have HSG := Lib.hid fun W => singleS_sg (s.extract f k) W (by rw [ByteArray.size_extract]; omega)
                cases hg : sgB (s.extract f k)
                · have HPP := Lib.hid (HBAD.out _ hmem hg)
                  rw [hg] at HSG
                  clear hgo hg hmem HMANY HGOOD HBAD
                  go_wp2_with (go_at_call 15; (with_reducible refine (HSG.out _).mono ?_); rintro e w2 ⟨rfl, hb2⟩)
                  go_ret2
                  rw [HPP.out.1, HPP.out.2]
                  exact ⟨none, 0, rfl, ownNil _ _ _, by first | exact gtr hb hb2 | exact gtr hb (gtr gdrew hb2)⟩
                · have HN : Hid (AtW s (k + 1) (k + 3) (os ++ [s.extract f k])) := Lib.hid (hgo hg)
                  rw [hg] at HSG
                  clear hgo hg hmem
                  by_cases h6 : os.length = 6
                  · have HPP := Lib.hid (HMANY.out (by omega))
                    clear HMANY HGOOD HBAD HN
                    go_wp2_with (go_at_call 15; (with_reducible refine (HSG.out _).mono ?_); rintro e w2 ⟨rfl, hb2⟩)
                    go_ret2
                    rw [HPP.out.1, HPP.out.2]
                    exact ⟨none, 0, rfl, ownNil _ _ _, by first | exact gtr hb hb2 | exact gtr hb (gtr gdrew hb2)⟩
                  · clear HMANY HBAD
                    go_wp2_with (first | (go_at_call 15; (with_reducible refine (HSG.out _).mono ?_); rintro e w2 ⟨rfl, hb2⟩; have hz2 := hb2.size) | (at_builtin; refine append_str rfl _ _ rfl w.heap.size _ os rfl (HO.out.below (gtr hb2 (bel1 _ _))) _ (s.extract f k) rfl ((Blk.new _ _ _).cell 0) (by omega) (by simp; omega) ?_; intro A5 c5 w5 ho5 hb5 hg5))
                    have HO5 := Lib.hid ho5; clear ho5
                    go_roundw
                    case rel => exact ⟨k + 1, k + 3, A5, c5, os ++ [s.extract f k], by go_num, by omega, by go_num, by omega, by rw [List.length_append, List.length_singleton]; omega, HN.out, by rw [List.length_append]; rfl, by rw [List.length_append]; exact HO5.out, (hb.trans (hb2.mono hzr)).trans (((bel1 _ _).mono (by omega)).trans hb5)⟩
                    case measure => simp [intOf]; omega
            · have HN : Hid (AtW s (k + 1) f os) := Lib.hid (hat.skip hlt (Or.inr (by cases ha : atP s k; rfl; exact absurd (atP_room ha) h3)))
              clear hat
              go_wp2
              go_roundw
              case rel => exact ⟨k + 1, f, A', c', os, by go_num, by omega, rfl, hf3, hol, HN.out, rfl, HO.out, hb⟩
              case measure => simp [intOf]; omega
        · have hks : k = s.size := by omega
          have hfs : f ≤ k := by
            obtain ⟨-, ⟨-, h, -⟩ | ⟨h, -⟩⟩ := hat
            · omega
            · omega
          have hfk : ¬ k < f := by omega
          have HC : Hid (k = s.size ∨ atP s k = true) := Lib.hid (Or.inl hks)
          clear hks
          obtain ⟨hmem, hwl, hgo⟩ := hat.word hle (by omega) HC.out
          clear hat
          have HSG := Lib.hid fun W => singleS_sg (s.extract f k) W (by rw [ByteArray.size_extract]; omega)
          cases hg : sgB (s.extract f k)
          · have HPP := Lib.hid (HBAD.out _ hmem hg)
            rw [hg] at HSG
            clear hgo hg hmem HMANY HGOOD HBAD
            go_wp2_with (go_at_call 15; (with_reducible refine (HSG.out _).mono ?_); rintro e w2 ⟨rfl, hb2⟩)
            go_ret2
            rw [HPP.out.1, HPP.out.2]
            exact ⟨none, 0, rfl, ownNil _ _ _, by first | exact gtr hb hb2 | exact gtr hb (gtr gdrew hb2)⟩
          · have HN : Hid (AtW s (k + 1) (k + 3) (os ++ [s.extract f k])) := Lib.hid (hgo hg)
            rw [hg] at HSG
            clear hgo hg hmem
            by_cases h6 : os.length = 6
            · have HPP := Lib.hid (HMANY.out (by omega))
              clear HMANY HGOOD HBAD HN
              go_wp2_with (go_at_call 15; (with_reducible refine (HSG.out _).mono ?_); rintro e w2 ⟨rfl, hb2⟩)
              go_ret2
              rw [HPP.out.1, HPP.out.2]
              exact ⟨none, 0, rfl, ownNil _ _ _, by first | exact gtr hb hb2 | exact gtr hb (gtr gdrew hb2)⟩
            · clear HMANY HBAD
              go_wp2_with (first | (go_at_call 15; (with_reducible refine (HSG.out _).mono ?_); rintro e w2 ⟨rfl, hb2⟩; have hz2 := hb2.size) | (at_builtin; refine append_str rfl _ _ rfl w.heap.size _ os rfl (HO.out.below (gtr hb2 (bel1 _ _))) _ (s.extract f k) rfl ((Blk.new _ _ _).cell 0) (by omega) (by simp; omega) ?_; intro A5 c5 w5 ho5 hb5 hg5))
              have HO5 := Lib.hid ho5; clear ho5
              go_roundw
              case rel => exact ⟨k + 1, k + 3, A5, c5, os ++ [s.extract f k], by go_num, by omega, by go_num, by omega, by rw [List.length_append, List.length_singleton]; omega, HN.out, by rw [List.length_append]; rfl, by rw [List.length_append]; exact HO5.out, (hb.trans (hb2.mono hzr)).trans (((bel1 _ _).mono (by omega)).trans hb5)⟩
              case measure => simp [intOf]; omega
      · have HS := Lib.hid (hat.stop hle)
        have HPP := Lib.hid (HGOOD.out (by rw [HS.out.1]; exact hol) (by rw [HS.out.1]; exact HS.out.2))
        clear hat HBAD HMANY HGOOD
        go_wp2
        go_ret2
        rw [HPP.out.1, HPP.out.2, HS.out.1]
        exact ⟨_, _, rfl, HO.out, hb⟩
  · have h1 : (s.toList == noneL) = true := hn
    have HP : Hid (posL s = []) := Lib.hid (by unfold posL; rw [if_pos h1])
    have HP2 : Hid (posB s = true) := Lib.hid (by unfold posB; rw [h1]; rfl)
    clear h1
    go_enter Tryd.func9, Tryd.ntmps9
    go_wp2
    go_ret2
    rw [HP.out, HP2.out]
    exact ⟨_, _, rfl, Own.empty w 9 _ _ (Nat.le_refl _), bel1 _ _⟩
end Go.Proofs.YtpepkpikeggceaaDoor
