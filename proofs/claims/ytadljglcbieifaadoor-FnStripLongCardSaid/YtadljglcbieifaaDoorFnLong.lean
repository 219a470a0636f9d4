/- FnStripLong returns true for every code. Conditions: none. -/
import Derived.Test.YtadljglcbieifaaDoorLongS
import Derived.Test.YtadljglcbieifaaDoorDrawS
namespace Go.Proofs.YtadljglcbieifaaDoor
open Go.RowKit
set_option linter.unusedVariables false

theorem stripB_in {kind : Int} {n : Nat} {t : ByteArray} (h1 : 0 ≤ kind) (h2 : kind ≤ 3) (h : In3 kind n t) (hn : n ≤ 7) : stripB kind t = true := by
  have := h.1
  rw [stripB_mk h1 h2 (by omega)]
  exact in3_allIn h
theorem lgB_in {kind : Int} {n : Nat} {t : ByteArray} (h1 : 0 ≤ kind) (h2 : kind ≤ 3) (h : In3 kind n t) (hn : n ≤ 7) : lgB kind t = true := by
  have := h.1
  rw [lgB, stripB_in h1 h2 h hn]
  simp; omega

set_option maxRecDepth 100000 in
set_option maxHeartbeats 6400000 in
theorem lawStripLong (a : Option Addr) (len cap : Nat) (zs : List Int) (w : World) (h : IsRow .u8 w a len cap zs) :
    Calls Tryd.prog 8 #[.slice a len cap] w fun e w' => e = .returned (.bool true) ∧ Below w.heap.size w w' := by
  obtain ⟨hr, hl⟩ := h.rdY
  clear h
  generalize zs.take len = bs at hr hl
  subst hl
  have hbl := hr.1.len
  have hbm := hr.1.max
  rw [byts_len] at hbl
  have hmx : bs.length ≤ 9223372036854775807 := by omega
  by_cases hbig : 65536 < bs.length
  · go_enter Tryd.func8, Tryd.ntmps8
    go_wp2_with (go_at_call 23; (with_reducible refine (rBig_any _ _ _ _ hmx).mono ?_); rintro e w1 ⟨rfl, rfl⟩)
    go_ret
    exact ⟨rfl, Below.refl _ _⟩
  · have hbI : ¬ (65536 : Int) < (bs.length : Int) := by omega
    go_enter Tryd.func8, Tryd.ntmps8
    go_wp2_with fail
    ((with_reducible refine (rBig_any _ _ _ _ hmx).mono ?_); rintro e w1 ⟨rfl, rfl⟩)
    have hdr : ∀ W, RdY W a cap bs → Calls Tryd.prog 47 #[.slice a bs.length cap] W (NewKT W 200) := fun W hW => by
      go_enter Tryd.func47, Tryd.ntmps47
      go_wp2_with (go_at_call 105; (with_reducible refine (drawStripValue_any a cap bs _ hW).mono ?_); rintro e w1 ⟨k, s, rfl, r⟩)
      go_ret2
      exact ⟨k, s, rfl, r⟩
    have HDR := Lib.hid (hdr _ hr)
    clear hdr hr hbig hmx hbl hbm
    go_wp2_with fail
    ((with_reducible refine (HDR.out).mono ?_); rintro e w2 ⟨kind, s, rfl, hs, hk0, hk1, hb2⟩)
    clear HDR
    have hsm : s.size ≤ maxLen := by unfold maxLen; omega
    have HI : Hid (∀ (t : ByteArray) W, t.size ≤ maxLen → Calls Tryd.prog 46 #[.int .i64 kind, .string t] W fun e w' => e = .returned (.tuple #[.int .i64 (lgV kind t), .bool (lgB kind t)]) ∧ Below W.heap.size W w') := fun t W ht => longestI_any kind t W ht
    have HS : Hid (∀ W, Calls Tryd.prog 45 #[.int .i64 kind, .string s] W fun e w' => e = .returned (.tuple #[.int .i64 (lgV kind s), .bool (lgB kind s)]) ∧ Below W.heap.size W w') := fun W => longestS_any kind s W hsm
    have HO : Hid (∀ W, Calls Tryd.prog 48 #[.int .i64 kind, .string s] W fun e w' => e = .returned (.tuple #[.bool (overV kind s), .bool (stripB kind s)]) ∧ Below W.heap.size W w') := fun W => stripOverI_any kind s W hsm
    have HG : Hid (∀ W, Calls Tryd.prog 49 #[.int .i64 kind, .string s] W fun e w' => e = .returned (.bool (stripB kind s)) ∧ W = w') := fun W => goodStripS_any kind s W hsm
    cases hB : lgB kind s
    · have hv : lgV kind s = 0 := by rw [lgV, hB]; rfl
      have HI2 : Hid (∀ W, Calls Tryd.prog 46 #[.int .i64 kind, .string s] W fun e w' => e = .returned (.tuple #[.int .i64 0, .bool false]) ∧ Below W.heap.size W w') := fun W => by
        have := HI.out s W hsm
        rwa [hB, hv] at this
      have HS2 : Hid (∀ W, Calls Tryd.prog 45 #[.int .i64 kind, .string s] W fun e w' => e = .returned (.tuple #[.int .i64 0, .bool false]) ∧ Below W.heap.size W w') := fun W => by
        have := HS.out W
        rwa [hB, hv] at this
      clear HI HS hB hv
      go_wp2_with fail
      ((with_reducible refine (HI2.out _).mono ?_); rintro e w3 ⟨rfl, hb3⟩)
      go_wp2_with fail
      ((with_reducible refine (HS2.out _).mono ?_); rintro e w4 ⟨rfl, hb4⟩)
      go_wp2_with fail
      ((with_reducible refine (HO.out _).mono ?_); rintro e w5 ⟨rfl, hb5⟩)
      have hne : (stripB kind s != stripB kind s) = false := by simp
      have hbA := gtr (gtr (gtr hb2 hb3) hb4) hb5
      go_wp2_with fail
      ((with_reducible refine (HG.out _).mono ?_); rintro e w6 ⟨rfl, rfl⟩)
      go_wp2
      go_ret
      exact ⟨rfl, hbA⟩
    · obtain ⟨hst, h7⟩ := lgB_of hB
      obtain ⟨h1, h2, h3, h4⟩ := stripB_of hst
      have hin := in3_of h4
      have hv : lgV kind s = lg kind s := by rw [lgV, if_pos hB]
      have hov : overV kind s = ((lg kind s : Int) == 0) := by
        rw [overV, hst, Bool.true_and, overB, Bool.eq_iff_iff, Bool.and_eq_true, List.isEmpty_iff, List.isEmpty_iff, beq_iff_eq]
        have := lg_zero h1 h2 hin
        rw [List.length_eq_zero_iff, List.length_eq_zero_iff] at this
        rw [← this]
        omega
      have h49 := lg_le49 h1 h2 hin h7
      have HI2 : Hid (∀ W, Calls Tryd.prog 46 #[.int .i64 kind, .string s] W fun e w' => e = .returned (.tuple #[.int .i64 (lg kind s), .bool true]) ∧ Below W.heap.size W w') := fun W => by
        have := HI.out s W hsm
        rwa [hB, hv] at this
      have HS2 : Hid (∀ W, Calls Tryd.prog 45 #[.int .i64 kind, .string s] W fun e w' => e = .returned (.tuple #[.int .i64 (lg kind s), .bool true]) ∧ Below W.heap.size W w') := fun W => by
        have := HS.out W
        rwa [hB, hv] at this
      have HO2 : Hid (∀ W, Calls Tryd.prog 48 #[.int .i64 kind, .string s] W fun e w' => e = .returned (.tuple #[.bool ((lg kind s : Int) == 0), .bool true]) ∧ Below W.heap.size W w') := fun W => by
        have := HO.out W
        rwa [hov, hst] at this
      have HG2 : Hid (∀ W, Calls Tryd.prog 49 #[.int .i64 kind, .string s] W fun e w' => e = .returned (.bool true) ∧ W = w') := fun W => by
        have := HG.out W
        rwa [hst] at this
      have HML : Hid (∀ W, Calls Tryd.prog 50 #[.int .i64 kind, .string s, .bool true] W (RetSB W (movesL kind true s) true)) := fun W => by
        have := stripMovesI_any kind true s W hsm
        rwa [hst, resL, if_pos hst] at this
      have HMR : Hid (∀ W, Calls Tryd.prog 50 #[.int .i64 kind, .string s, .bool false] W (RetSB W (movesL kind false s) true)) := fun W => by
        have := stripMovesI_any kind false s W hsm
        rwa [hst, resL, if_pos hst] at this
      have HT : Hid (∀ t ∈ both kind s, t.size ≤ maxLen ∧ lgV kind t = lg kind t ∧ lgB kind t = true ∧ 1 + lg kind t ≤ lg kind s) := fun t ht => by
        obtain ⟨k1, k2⟩ := both_mu h1 h2 hin ht
        have k3 := lgB_in h1 h2 k1 h7
        refine ⟨by have := k1.1; unfold maxLen; omega, by rw [lgV, if_pos k3], k3, ?_⟩
        rw [lg_eq h1 h2 hin]
        exact mxs_mem _ _ t ht
      have HE := Lib.hid (lg_eq h1 h2 hin)
      have hll := movesL_le kind true s h3
      have hlr := movesL_le kind false s h3
      have HBO : Hid (both kind s = movesL kind true s ++ movesL kind false s) := by show _ = _; rfl
      clear HS HO HG hB hst h1 h2 h3 h4 hin hv hov h7
      generalize movesL kind true s = tl at *
      generalize movesL kind false s = tr at *
      generalize both kind s = ts at *
      generalize lg kind s = n at *
      have hne : ((n : Int) != (n : Int)) = false := by simp
      go_wp2_with fail
      ((with_reducible refine (HI2.out _).mono ?_); rintro e w3 ⟨rfl, hb3⟩)
      go_wp2_with fail
      ((with_reducible refine (HS2.out _).mono ?_); rintro e w4 ⟨rfl, hb4⟩)
      go_wp2_with fail
      ((with_reducible refine (HO2.out _).mono ?_); rintro e w5 ⟨rfl, hb5⟩)
      go_wp2_with fail
      ((with_reducible refine (HG2.out _).mono ?_); rintro e w6 ⟨rfl, rfl⟩)
      have hbA := gtr (gtr (gtr hb2 hb3) hb4) hb5
      clear hb2 hb3 hb4 hb5 HI2 HS2 HO2 HG2
      go_wp2_with fail
      ((with_reducible refine (HML.out _).mono ?_); rintro e w7 ⟨A7, c7, rfl, ho7, hb7⟩)
      have hbB := gtr hbA hb7
      go_wp2_with fail
      ((with_reducible refine (HMR.out _).mono ?_); rintro e w8 ⟨A8, c8, rfl, ho8, hb8⟩)
      have hbC := gtr hbB hb8
      have ho7' := ho7.below hb8
      clear hbA hbB hb7 hb8 ho7
      have hz8 := hbC.size
      have HO7 := Lib.hid ho7'; have HO8 := Lib.hid ho8; have HBC := Lib.hid hbC
      clear ho7' ho8 hbC
      have hap1 : Own (w8.alloc (.cells #[] 9)) w8.heap.size 9 (.slice (some ⟨w8.heap.size, 0, none⟩) 0 0) (scells []) := Own.empty w8 9 9 _ (Nat.le_refl _)
      go_wp2_with (first
        | (at_builtin
           refine append_strs rfl _ _ rfl w8.heap.size (.slice (some ⟨w8.heap.size, 0, none⟩) 0 0) [] rfl hap1 _ A7 _ c7 tl rfl rfl ((HO7.out.below (bel1 _ _)).rd) (by simp; omega) (by simp) ?_
           intro A9 c9 w9 ho9 hb9 hg9
           have HO9 : Hid (Own w9 w8.heap.size 9 (.slice A9 tl.length c9) (scells tl)) := by
             show Own _ _ _ _ _
             simpa using ho9
           have HB9 := Lib.hid ((bel1 w8 (.cells #[] 9)).trans hb9)
           have hz9 := HB9.out.size
           clear ho9 hb9 hg9 hap1)
        | (at_builtin
           refine append_strs rfl _ _ rfl w8.heap.size (.slice A9 tl.length c9) tl rfl HO9.out _ A8 _ c8 tr rfl rfl ((HO8.out.below HB9.out).rd) (by omega) (by omega) ?_
           intro A10 c10 w10 ho10 hb10 hg10
           rw [← HBO.out] at ho10
           have HO10 := Lib.hid ho10; have HB10 := Lib.hid (HB9.out.trans hb10)
           clear ho10 hb10 hg10)
        | fail)
      have hlen : tl.length + tr.length = ts.length := by rw [HBO.out, List.length_append]
      have ho10 := HO10.out
      rw [hlen] at ho10 ⊢
      have hb10 := HBC.out.trans (HB10.out.mono hz8)
      have hts : ts.length ≤ 48 := by omega
      clear HO7 HO8 HO10 HML HMR HO9 HBO hlen hll hlr HB9 HB10 hz9
      go_loopw [15, 17] (fun m i wr => ∃ j : Nat, i = .int .i64 j ∧ j ≤ ts.length ∧ m = .int .i64 (mxs (lg kind) (ts.take j)) ∧ Own wr w8.heap.size 9 (.slice A10 ts.length c10) (scells ts) ∧ Below w.heap.size w wr) (fun _ i _ => ts.length - (intOf i).toNat)
      case atStart => exact ⟨0, rfl, by omega, rfl, ho10, hb10⟩
      case round =>
        obtain ⟨j, rfl, hj, rfl, ho, hb⟩ := hrel
        clear ho10 hb10
        have hle : ∀ j, mxs (lg kind) (ts.take j) ≤ n := fun j => mxs_le _ _ _ fun t ht => (HT.out t (List.mem_of_mem_take ht)).2.2.2
        have hlj := hle j
        by_cases hlt : j < ts.length
        · obtain ⟨b2, o2, rfl, hbB, hc⟩ := ho.rd.at (j := j) (by rw [scells_len]; exact hlt)
          have hcj := hc j _ (scells_at ts j ts[j] (List.getElem?_eq_getElem hlt))
          obtain ⟨k1, k2, k3, k4⟩ := HT.out ts[j] (List.getElem_mem hlt)
          have hmx : mxs (lg kind) (ts.take (j + 1)) = max (mxs (lg kind) (ts.take j)) (1 + lg kind ts[j]) := by
            have := mxs_take (lg kind) [] ts j hlt
            simpa using this
          have HMX := Lib.hid hmx
          have HC := HI.out ts[j] wr k1
          rw [k2, k3] at HC
          have HC2 := Lib.hid HC
          generalize ts[j] = t at *
          have HO := Lib.hid ho; have HB := Lib.hid hb
          obtain ⟨m0, hm0⟩ : ∃ m0, m0 = mxs (lg kind) (ts.take j) := ⟨_, rfl⟩
          rw [← hm0] at hlj HMX ⊢
          clear hc k2 k3 HC hmx ho hb hle hm0
          have hxn : ¬ (n : Int) ≤ (lg kind t : Int) := by omega
          go_wp2_with fail
          ((with_reducible refine HC2.out.mono ?_); rintro e w11 ⟨rfl, hb11⟩)
          have HB11 := Lib.hid hb11
          have hzr := HB.out.size
          clear hb11
          by_cases hgt : (m0 : Int) < (lg kind t : Int) + 1
          · go_wp2
            go_roundw
            case rel => exact ⟨j + 1, by go_num, by omega, by rw [HMX.out]; go_num, HO.out.below HB11.out, gtr HB.out HB11.out⟩
            case measure => simp [intOf]; omega
          · go_wp2
            go_roundw
            case rel => exact ⟨j + 1, by go_num, by omega, by rw [HMX.out]; go_num, HO.out.below HB11.out, gtr HB.out HB11.out⟩
            case measure => simp [intOf]; omega
        · obtain rfl : j = ts.length := by omega
          have hen : mxs (lg kind) (ts.take ts.length) = n := by rw [List.take_length]; exact HE.out.symm
          rw [hen]
          clear hen hle hlj
          have HB := Lib.hid hb
          clear ho hb
          go_wp2
          go_ret
          exact ⟨rfl, HB.out⟩
end Go.Proofs.YtadljglcbieifaaDoor
