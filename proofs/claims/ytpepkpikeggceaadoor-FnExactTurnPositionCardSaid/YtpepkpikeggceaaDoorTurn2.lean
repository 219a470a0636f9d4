/- FnExactTurnStrip, FnExactMirrorStrip return true for every kind and text. Conditions: none. -/
import Derived.Test.YtpepkpikeggceaaDoorTurn
namespace Go.Proofs.YtpepkpikeggceaaDoor
open Go.RowKit
set_option linter.unusedVariables false

def turnL (kind : Int) (s : ByteArray) : List UInt8 := if stripB kind s = true then (if kind = 0 then (s.data.toList.map oth).reverse else s.data.toList.map oth) else []
def mirL (kind : Int) (s : ByteArray) : List UInt8 := if (stripB kind s && !(kind == 0)) = true then s.data.toList.reverse else []
theorem map_in {cs : List UInt8} {f g : UInt8 → UInt8} (hf : ∀ b ∈ cs, f b = g b) {s : ByteArray} (h : allIn cs s = true) : s.data.toList.map f = s.data.toList.map g := by
  refine List.map_congr_left fun b hb => hf b ?_
  unfold allIn at h
  rw [List.all_eq_true] at h
  simpa using h b hb
theorem ret_two {l m : List UInt8} {b c : Bool} (h : l = m) (hb : b = c) : Ending.returned (.tuple #[.string (str l), .bool b]) = .returned (.tuple #[.string (str m), .bool c]) := by rw [h, hb]

set_option maxHeartbeats 800000 in
theorem turnI_any (kind : Int) (s : ByteArray) (w : World) (hs : s.size ≤ maxLen) :
    Calls Tryd.prog 29 #[.int .i64 kind, .string s] w fun e w' => e = .returned (.tuple #[.string (str (turnL kind s)), .bool (stripB kind s)]) ∧ Below w.heap.size w w' := by
  cases hg : stripB kind s
  · have HT : Hid (turnL kind s = []) := by show _ = _; rw [turnL, hg]; rfl
    go_enter Tryd.func29, Tryd.ntmps29
    go_wp2_with (go_at_call 44; refine (goodStripI_any _ _ _ hs).mono ?_; rintro e w1 ⟨rfl, hb1⟩)
    go_ret2
    exact ⟨ret_two HT.out.symm rfl, hb1⟩
  · obtain ⟨h1, h2, h3, h4⟩ := stripB_of hg
    by_cases hk : kind = 0
    · subst hk
      have HT : Hid (turnL 0 s = s.data.toList.reverse.map (swp 84 70)) := by
        show _ = _
        have e : s.data.toList.map oth = s.data.toList.map (swp 84 70) := map_in (cs := marksOf 0) (by decide) h4
        rw [turnL, if_pos hg, if_pos rfl, e, List.map_reverse]
      obtain ⟨r, hr⟩ : ∃ r, r = str s.data.toList.reverse := ⟨_, rfl⟩
      have hrz : r.size = s.size := by rw [hr, str_size, List.length_reverse, data_len]
      have HRD : Hid (r.data.toList = s.data.toList.reverse) := by show _ = _; rw [hr]; rfl
      have hrz' : r.size ≤ 12 := by omega
      have HRZ := Lib.hid hrz; clear hrz
      have hrev : ∀ w0, Calls Tryd.prog 52 #[.string s] w0 fun e w' => e = .returned (.string r) ∧ Below w0.heap.size w0 w' := fun w0 => by rw [hr]; exact reversed_any s w0 (by omega)
      clear hr
      go_enter Tryd.func29, Tryd.ntmps29
      go_wp2_with (first | (go_at_call 44; refine (goodStripI_any _ _ _ hs).mono ?_; rintro e w1 ⟨rfl, hb1⟩) | (go_at_call 52; refine (hrev _).mono ?_; rintro e w2 ⟨rfl, hb2⟩) | (refine wpList_bytes rfl (.tmp 18) r rfl rfl ?_; intro c w3 hr3 hb3 hz3 hc3))
      have hz2 := hb2.size
      have hz1 := hb1.size
      go_loopw [7, 8, 22] (fun x y i wr => ∃ k : Nat, i = .int .i64 k ∧ k ≤ r.size ∧ BRow wr w2.heap.size (mix (swp 84 70) r.data.toList k) ∧ Below w2.heap.size w2 wr) (fun _ _ i _ => r.size - (intOf i).toNat)
      case atStart => exact ⟨0, rfl, by omega, by rw [mix_zero]; exact hr3, hb3⟩
      case round =>
        clear hr3 hb3 hz3
        obtain ⟨k, rfl, hk, hr, hb⟩ := hrel
        by_cases hlt : k < r.size
        · have hll : k < r.data.toList.length := by rw [data_len]; exact hlt
          have hck := hr.cell k _ (mix_at _ _ _ hll)
          have hfk := hr.frozen k (by rw [mix_len]; exact hll)
          have hse := mix_set (swp 84 70) _ _ hll
          have hsa := mix_same (swp 84 70) _ _ hll
          rw [getElem_data r k hlt] at hck hse hsa
          have HR := Lib.hid hr; have HSE := Lib.hid hse; have HSA := Lib.hid hsa; clear hr hse hsa hll
          by_cases c1 : r[k] = 84
          · have t1 := beq_t 84 rfl c1
            have t2 : ((r[k].toNat : Int) == 70) = false := beq_f (c := 70) 70 rfl (by rw [c1]; decide)
            have HC := Lib.hid c1; clear c1
            go_wp2
            go_roundw
            case rel => exact ⟨k + 1, by go_num, by omega, by have := HR.out.setn k (swp 84 70 r[k]) 70 (by rw [HC.out]; rfl); rwa [HSE.out] at this, hb.setCell (Nat.le_refl _) _⟩
            case measure => simp [intOf]; omega
          · have t1 := beq_f 84 rfl c1
            by_cases c2 : r[k] = 70
            · have t2 := beq_t 70 rfl c2
              have HC := Lib.hid c2; clear c1 c2
              go_wp2
              go_roundw
              case rel => exact ⟨k + 1, by go_num, by omega, by have := HR.out.setn k (swp 84 70 r[k]) 84 (by rw [HC.out]; rfl); rwa [HSE.out] at this, hb.setCell (Nat.le_refl _) _⟩
              case measure => simp [intOf]; omega
            · have t2 := beq_f 70 rfl c2
              have HC : Hid (swp 84 70 r[k] = r[k]) := by show _ = _; rw [swp, if_neg c1, if_neg c2]
              clear c1 c2
              go_wp2
              go_roundw
              case rel => exact ⟨k + 1, by go_num, by omega, by rw [← HSA.out HC.out]; exact HR.out, hb⟩
              case measure => simp [intOf]; omega
        · obtain rfl : k = r.size := by omega
          have hback := hr.back (c := c) (n := r.size) (by rw [mix_len, data_len])
          have HM : Hid (mix (swp 84 70) r.data.toList r.size = r.data.toList.map (swp 84 70)) := by have := mix_all (swp 84 70) r.data.toList; rw [data_len] at this; exact this
          rw [HM.out] at hback
          obtain ⟨l, hl⟩ : ∃ l, l = r.data.toList.map (swp 84 70) := ⟨_, rfl⟩
          rw [← hl] at hback
          have HL := Lib.hid hl; clear hl
          clear hr HM
          go_wp2
          go_ret2
          exact ⟨ret_two (by rw [HT.out, HL.out, HRD.out]) rfl, (hb1.trans (hb2.mono hz1)).trans (hb.mono (by omega))⟩
    · have HT : Hid (turnL kind s = s.data.toList.map (swp 76 82)) := by
        show _ = _
        have hm : marksOf kind = [76, 82, 46] := if_neg hk
        rw [hm] at h4
        have e : s.data.toList.map oth = s.data.toList.map (swp 76 82) := map_in (by decide) h4
        rw [turnL, if_pos hg, if_neg hk, e]
      have ht : (kind != 0) = true := by simp [hk]
      obtain ⟨l, hl⟩ : ∃ l, l = s.data.toList.map (swp 76 82) := ⟨_, rfl⟩
      have hex : ∀ w0, Calls Tryd.prog 28 #[.string s] w0 fun e w' => e = .returned (.string (str l)) ∧ Below w0.heap.size w0 w' := fun w0 => by rw [hl]; exact exchanged_any s w0 (by omega)
      have HL := Lib.hid hl; clear hl h4
      go_enter Tryd.func29, Tryd.ntmps29
      go_wp2_with (first | (go_at_call 44; refine (goodStripI_any _ _ _ hs).mono ?_; rintro e w1 ⟨rfl, hb1⟩) | (go_at_call 28; refine (hex _).mono ?_; rintro e w2 ⟨rfl, hb2⟩))
      go_ret2
      exact ⟨ret_two (by rw [HT.out, HL.out]) rfl, hb1.trans (hb2.mono hb1.size)⟩

set_option maxHeartbeats 800000 in
theorem turnS_any (kind : Int) (s : ByteArray) (w : World) (hs : s.size ≤ maxLen) :
    Calls Tryd.prog 20 #[.int .i64 kind, .string s] w fun e w' => e = .returned (.tuple #[.string (str (turnL kind s)), .bool (stripB kind s)]) ∧ w = w' := by
  cases hg : stripB kind s
  · have HT : Hid (turnL kind s = []) := by show _ = _; rw [turnL, hg]; rfl
    go_enter Tryd.func20, Tryd.ntmps20
    go_wp2_with (go_at_call 33; refine (goodStripS_any _ _ _ hs).mono ?_; rintro e w1 ⟨rfl, rfl⟩)
    go_ret2
    exact ⟨ret_two HT.out.symm rfl, rfl⟩
  · obtain ⟨h1, h2, h3, h4⟩ := stripB_of hg
    clear h4
    have HT : Hid (turnL kind s = if kind = 0 then (s.data.toList.map oth).reverse else s.data.toList.map oth) := by show _ = _; rw [turnL, if_pos hg]
    go_enter Tryd.func20, Tryd.ntmps20
    go_wp2_with (go_at_call 33; refine (goodStripS_any _ _ _ hs).mono ?_; rintro e w1 ⟨rfl, rfl⟩)
    go_loop [6, 7] (fun v i => ∃ (k : Nat) (o : ByteArray), i = .int .i64 k ∧ k ≤ s.size ∧ v = .string o ∧ o.data.toList = (s.data.toList.take k).map oth) (fun _ i => s.size - (intOf i).toNat)
    case atStart => exact ⟨0, _, rfl, by omega, rfl, rfl⟩
    case round =>
      obtain ⟨k, o, rfl, hk, rfl, ho⟩ := hrel
      have hoz : o.size ≤ 12 := by rw [← data_len, ho, List.length_map, List.length_take]; omega
      have HO := Lib.hid ho; clear ho
      by_cases hlt : k < s.size
      · obtain ⟨o', ho'⟩ : ∃ o', o' = o ++ str [oth s[k]] := ⟨_, rfl⟩
        have HS : Hid (o'.data.toList = (s.data.toList.take (k + 1)).map oth) := by
          show _ = _
          have h' : k < s.data.toList.length := by rw [data_len]; exact hlt
          rw [ho', data_append, str_data, List.take_succ_eq_append_getElem h', List.map_append, HO.out]
          rfl
        have hadd := run_string_add_sum (P := Tryd.prog) w o (str [oth s[k]]) (by rw [str_size, List.length_singleton]; omega)
        rw [← ho'] at hadd
        clear ho'
        go_wp2_with (go_at_call 45; refine (other_any s[k] _).mono ?_; rintro e w1 ⟨rfl, rfl⟩)
        go_round
        case rel => exact ⟨k + 1, o', by go_num, by omega, rfl, HS.out⟩
        case measure => simp [intOf]; omega
      · obtain rfl : k = s.size := by omega
        have HL : Hid (o.data.toList = s.data.toList.map oth) := by show _ = _; rw [HO.out, List.take_of_length_le (by rw [data_len]; omega)]
        clear HO
        by_cases hk0 : kind = 0
        · subst hk0
          have hr := round_any o w (by omega)
          have HR := Lib.hid hr; clear hr
          go_wp2_with (go_at_call 46; refine HR.out.mono ?_; rintro e w1 ⟨rfl, rfl⟩)
          go_ret2
          exact ⟨ret_two (by rw [HT.out, HL.out]; simp) rfl, rfl⟩
        · have ht : (kind == 0) = false := by simp [hk0]
          have HK : Hid (¬ kind = 0) := hk0
          clear hk0
          go_wp2_with fail
          go_ret2
          refine ⟨?_, rfl⟩
          rw [HT.out, if_neg HK.out, str_of o HL.out]
          rfl

end Go.Proofs.YtpepkpikeggceaaDoor
