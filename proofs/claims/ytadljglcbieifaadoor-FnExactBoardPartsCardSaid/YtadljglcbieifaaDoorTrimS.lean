/- TrimBoard of the reference, and both TrimBoards: contracts. Conditions: none. -/
import Derived.Test.YtadljglcbieifaaDoorTrim
import Derived.Test.YtadljglcbieifaaDoorTurnC
namespace Go.Proofs.YtadljglcbieifaaDoor
open Go.RowKit
set_option linter.unusedVariables false

theorem l1Most_any (a b : Int) (w : World) : Calls Tryd.prog 155 #[.int .i64 a, .int .i64 b] w fun e w' => e = .returned (.int .i64 (max a b)) ∧ w' = w := by
  by_cases h : b < a
  · have e : max a b = a := by omega
    rw [e]
    go_enter Tryd.func155, Tryd.ntmps155
    go_wp2
    go_ret
    exact ⟨rfl, rfl⟩
  · have e : max a b = b := by omega
    rw [e]
    go_enter Tryd.func155, Tryd.ntmps155
    go_wp2
    go_ret
    exact ⟨rfl, rfl⟩
theorem l1Least_any (a b : Int) (w : World) : Calls Tryd.prog 194 #[.int .i64 a, .int .i64 b] w fun e w' => e = .returned (.int .i64 (min a b)) ∧ w' = w := by
  by_cases h : a < b
  · have e : min a b = a := by omega
    rw [e]
    go_enter Tryd.func194, Tryd.ntmps194
    go_wp2
    go_ret
    exact ⟨rfl, rfl⟩
  · have e : min a b = b := by omega
    rw [e]
    go_enter Tryd.func194, Tryd.ntmps194
    go_wp2
    go_ret
    exact ⟨rfl, rfl⟩

theorem brow_fr {ss : List ByteArray} {i j : Nat} (hi : i < ss.length) (hj : j < (gs ss i).size) : (gb (brows ss) i).getD j false = fr ss i j := by
  have e : gb (brows ss) i = brow (gs ss i) := by simp [gb, brows, gs, hi]
  rw [e, fr_at hj, brow]
  have hj' : j < (gs ss i).data.toList.length := by rw [data_len]; exact hj
  rw [List.getD_eq_getElem?_getD, List.getElem?_map, List.getElem?_eq_getElem hj']
  rfl

set_option maxRecDepth 100000 in
set_option maxHeartbeats 3200000 in
theorem trimS_any (A : Option Addr) (c : Nat) (ss : List ByteArray) (w : World) (B : Nat) (hB : B ≤ w.heap.size) (h : Rd w B A c (scells ss)) (hb : boardP ss) (hsz : Hid (Short ss)) :
    Calls Tryd.prog 147 #[.agg #[.slice A ss.length c]] w (RetT w (trimL ss)) := by
  have h1 := h.len
  have h2 := h.max
  rw [scells_len] at h1
  have hn := hb.1
  have hw := hb.2.1
  obtain ⟨b, o, rfl, hbB, hc⟩ := h.at (j := 0) (by rw [scells_len]; omega)
  have HR : Hid (∀ w', Below w.heap.size w w' → ∀ i, i < ss.length → w'.cell? ⟨b, o + i, none⟩ = some (.string (gs ss i))) := fun w' hh i hi => (hh.cell (p := ⟨b, o + i, none⟩) (by show b < _; omega)).trans (hc i _ (gs_at ss i hi))
  have HBP := Lib.hid hb
  have HCELLS : Hid (∀ W, Below w.heap.size w W → Calls Tryd.prog 145 #[.agg #[.slice (some ⟨b, o, none⟩) ss.length c]] W fun e w' => ∃ A' c', e = .returned (.slice A' ss.length c') ∧ RwB w' W.heap.size (.slice A' ss.length c') (brows ss) ∧ Below W.heap.size W w') := fun W hh => cells_any _ _ ss W B (by have := hh.size; omega) (h.below hh hB) hsz (by omega)
  have HOK := Lib.hid (okB_scanR (x := ss.length) (y := (gs ss 0).size) hb (Int.le_refl _) (Int.le_refl _) ss.length (Nat.le_refl _))
  have HREL : Hid (trimL ss = cutB ss (scanR ss ⟨ss.length, -1, (gs ss 0).size, -1⟩ ss.length)) := cutB_rel (relB_scanR hb (by omega) (by omega) (Int.le_refl _) (Int.le_refl _) ss.length (Nat.le_refl _))
  clear hc hb h
  go_enter Tryd.func147, Tryd.ntmps147
  go_wp2_with fail
  obtain ⟨W, hW⟩ : ∃ W, W = (w.alloc (.cells #[.slice (some ⟨b, o, none⟩) ss.length c] 60)).alloc (.cells #[.slice none 0 0] 60) := ⟨_, rfl⟩
  have e0 : Blk W w.heap.size 60 #[.slice (some ⟨b, o, none⟩) ss.length c] := by rw [hW]; exact (Blk.new w _ _).alloc _
  have e1 : Blk W (w.heap.size + 1) 60 #[.slice none 0 0] := by rw [hW]; exact Blk.new_at (w.alloc _) _ _ (by simp)
  have hAW : Below w.heap.size w W := by rw [hW]; exact bel2 _ _ _
  have hzW : W.heap.size = w.heap.size + 2 := by rw [hW]; simp
  rw [← hW]
  clear hW
  ((with_reducible refine (HCELLS.out _ hAW).mono ?_); rintro e w1 ⟨A2, c2, rfl, ho2, hb1⟩)
  have s0 := e0.below hb1 e0.lt
  have t1 := e1.below hb1 e1.lt
  have s2 : Below w.heap.size w w1 := gtr hAW hb1
  have hbl : (brows ss).length = ss.length := by simp [brows]
  obtain ⟨g, og, hgA, hgB, hgc⟩ := ho2.rd.at (j := 0) (by omega)
  subst hgA
  have hcl := ho2.rd.len
  rw [hbl] at hcl
  obtain ⟨hcl1, hcl2⟩ := hcl
  have HC : Hid (∀ i, i < ss.length → ∃ Ai ci, w1.cell? ⟨g, og + i, none⟩ = some (.slice Ai (gs ss 0).size ci) ∧ (gs ss 0).size ≤ ci ∧ ci ≤ 9223372036854775807 ∧ Rd w1 w1.heap.size Ai ci (bools (gb (brows ss) i))) := by
    intro i hi
    obtain ⟨Ai, ci, k1, k2⟩ := hgc i (by rw [hbl]; exact hi)
    have e : gb (brows ss) i = brow (gs ss i) := by simp [gb, brows, gs, hi]
    have el : (gb (brows ss) i).length = (gs ss 0).size := by rw [e, brow_len]; exact (HBP.out.2.2 i hi).1
    rw [el] at k1
    have hl := k2.len
    rw [bools_len, el] at hl
    exact ⟨Ai, ci, k1, hl, k2.max, k2⟩
  have HL : Hid (∀ i, i < ss.length → (gb (brows ss) i).length = (gs ss 0).size) := by
    intro i hi
    have e : gb (brows ss) i = brow (gs ss i) := by simp [gb, brows, gs, hi]
    rw [e, brow_len]; exact (HBP.out.2.2 i hi).1
  obtain ⟨A0, c0, q0, hq1, hq2, -⟩ := HC.out 0 (by omega)
  rw [Nat.add_zero] at q0
  clear ho2 hgc e0 e1 hbl
  go_wp2
  go_region
  have hbV : Below w1.heap.size w1 w1.drew := gdrew
  have r0 := s0.below hbV s0.lt
  have r1 := t1.below hbV t1.lt
  have r2 : Below w.heap.size w w1.drew := s2.trans (hbV.mono s2.size)
  have HD : Hid (∀ i, i < ss.length → ∃ Ai ci, w1.drew.cell? ⟨g, og + i, none⟩ = some (.slice Ai (gs ss 0).size ci) ∧ (gs ss 0).size ≤ ci ∧ ci ≤ 9223372036854775807 ∧ Rd w1.drew w1.heap.size Ai ci (bools (gb (brows ss) i))) := fun i hi => by
    obtain ⟨Ai, ci, k1, k2, k3, k4⟩ := HC.out i hi
    exact ⟨Ai, ci, k1, k2, k3, k4.below hbV (Nat.le_refl _)⟩
  clear s0 t1 s2 HC q0 hbV
  generalize w1.drew = V at *
  go_wp2
  go_loop [4, 5, 6, 7, 8] (fun x y z v i => ∃ k : Nat, i = .int .i64 k ∧ k ≤ ss.length ∧ x = .int .i64 (scanR ss ⟨ss.length, -1, (gs ss 0).size, -1⟩ k).a ∧ y = .int .i64 (scanR ss ⟨ss.length, -1, (gs ss 0).size, -1⟩ k).b ∧ z = .int .i64 (scanR ss ⟨ss.length, -1, (gs ss 0).size, -1⟩ k).c ∧ v = .int .i64 (scanR ss ⟨ss.length, -1, (gs ss 0).size, -1⟩ k).d) (fun _ _ _ _ i => ss.length - (intOf i).toNat)
  case atStart => exact ⟨0, rfl, by omega, rfl, rfl, rfl, rfl⟩
  case round =>
    obtain ⟨k, rfl, hk, rfl, rfl, rfl, rfl⟩ := hrel
    by_cases hlt : k < ss.length
    · obtain ⟨Ak, ck, qk, hk1, hk2, rk⟩ := HD.out k hlt
      have hrl := HL.out k hlt
      have hszk : (gs ss k).size = (gs ss 0).size := (HBP.out.2.2 k hlt).1
      obtain ⟨S, hSd⟩ : ∃ S, S = scanR ss ⟨ss.length, -1, (gs ss 0).size, -1⟩ k := ⟨_, rfl⟩
      rw [← hSd]
      have HSD := Lib.hid hSd; clear hSd
      go_wp2
      go_loop [4, 5, 6, 7, 9] (fun x y z v i => ∃ j : Nat, i = .int .i64 j ∧ j ≤ (gs ss 0).size ∧ x = .int .i64 (scanC ss k S j).a ∧ y = .int .i64 (scanC ss k S j).b ∧ z = .int .i64 (scanC ss k S j).c ∧ v = .int .i64 (scanC ss k S j).d) (fun _ _ _ _ i => (gs ss 0).size - (intOf i).toNat)
      case atStart => exact ⟨0, rfl, by omega, rfl, rfl, rfl, rfl⟩
      case round =>
        obtain ⟨j, rfl, hj, rfl, rfl, rfl, rfl⟩ := hrel
        by_cases hjl : j < (gs ss 0).size
        · obtain ⟨b4, o4, rfl, hb4, hc4⟩ := rk.at (j := j) (by rw [bools_len, hrl]; exact hjl)
          have q4 := hc4 j _ (bools_at _ j (by rw [hrl]; exact hjl))
          rw [brow_fr hlt (by rw [hszk]; exact hjl)] at q4
          clear hc4
          have HSTEP : Hid (scanC ss k S (j + 1) = stepC ss (scanC ss k S j) k j) := rfl
          obtain ⟨T, hT⟩ : ∃ T, T = scanC ss k S j := ⟨_, rfl⟩
          rw [← hT] at HSTEP ⊢
          have HT := Lib.hid hT; clear hT
          cases hf : fr ss k j
          · have HF : Hid (stepC ss T k j = T) := by show stepC ss T k j = T; unfold stepC; rw [hf]; rfl
            rw [hf] at q4
            clear hf
            go_wp2
            go_round
            case rel => exact ⟨j + 1, by go_num, by omega, by rw [HSTEP.out, HF.out], by rw [HSTEP.out, HF.out], by rw [HSTEP.out, HF.out], by rw [HSTEP.out, HF.out]⟩
            case measure => simp [intOf]; omega
          · have HF : Hid (stepC ss T k j = ⟨min T.a k, max T.b k, min T.c j, max T.d j⟩) := by show stepC ss T k j = _; unfold stepC; rw [hf]; rfl
            rw [hf] at q4
            clear hf
            go_wp2_with (first | (go_at_call 155; (with_reducible refine (l1Most_any _ _ _).mono ?_); rintro e w5 ⟨rfl, rfl⟩) | (go_at_call 194; (with_reducible refine (l1Least_any _ _ _).mono ?_); rintro e w5 ⟨rfl, rfl⟩))
            go_round
            case rel => exact ⟨j + 1, by go_num, by omega, by rw [HSTEP.out, HF.out], by rw [HSTEP.out, HF.out], by rw [HSTEP.out, HF.out], by rw [HSTEP.out, HF.out]⟩
            case measure => simp [intOf]; omega
        · obtain rfl : j = (gs ss 0).size := by omega
          have HSC : Hid (scanR ss ⟨ss.length, -1, (gs ss 0).size, -1⟩ (k + 1) = scanC ss k S (gs ss 0).size) := by show _ = _; rw [HSD.out, ← hszk]; rfl
          go_wp2
          go_round
          case rel => exact ⟨k + 1, by go_num, by omega, by rw [HSC.out], by rw [HSC.out], by rw [HSC.out], by rw [HSC.out]⟩
          case measure => simp [intOf]; omega
    · obtain rfl : k = ss.length := by omega
      have hok := HOK.out
      have HTL := HREL
      obtain ⟨S, hSd⟩ : ∃ S, S = scanR ss ⟨ss.length, -1, (gs ss 0).size, -1⟩ ss.length := ⟨_, rfl⟩
      rw [← hSd] at hok HTL ⊢
      clear hSd HOK HREL HCELLS HL HD
      by_cases hneg : S.b < 0
      · have HT : Hid (trimL ss = [⟨#[35]⟩]) := by show trimL ss = _; rw [HTL.out, cutB, if_pos hneg]
        have z0 : ∀ o', (V.alloc o').cell? ⟨w.heap.size + 1, 0, none⟩ = some (.slice none 0 0) := fun o' => (r1.alloc o').cell 0
        have z1 : ∀ o', (V.alloc o').frozen? ⟨w.heap.size + 1, 0, none⟩ = false := fun o' => (r1.alloc o').frozen 0
        have hO := Blk.new V 9 #[.string ⟨#[35]⟩]
        have HO : Hid (Own (V.alloc (.cells #[.string ⟨#[35]⟩] 9)) V.heap.size 9 (.slice (some ⟨V.heap.size, 0, none⟩) 1 1) [.string ⟨#[35]⟩]) := ⟨rfl, .inr ⟨V.heap.size, 1, #[.string ⟨#[35]⟩], rfl, Nat.le_refl _, hO, Nat.le_refl _, by unfold maxLen; omega, rfl, rfl⟩⟩
        have HB := Lib.hid r2
        have hVz : w.heap.size + 2 ≤ V.heap.size := by have := r1.lt; omega
        clear r0 hO r2
        go_wp2
        refine bodyPost_ret (v := .agg #[.slice (some ⟨V.heap.size, 0, none⟩) 1 1]) (by simp [results, Tryd.results147, go_sem, z0]) rfl ⟨some ⟨V.heap.size, 0, none⟩, 1, by rw [HT.out]; rfl, ?_, ?_⟩
        · rw [HT.out]
          exact (HO.out.far _ _ (by simp [Value.ownBlock]; omega)).le HB.out.size
        · exact (HB.out.alloc HB.out.size _).setCell (by dsimp only; omega) _
      · rcases hok with e | hok
        · exact absurd (show S.b < 0 by rw [e]; show (-1 : Int) < 0; omega) hneg
        · obtain ⟨sa, sb, sc, sd⟩ := S
          simp only at hok hneg
          obtain ⟨ra, rfl⟩ := Int.eq_ofNat_of_zero_le hok.1
          obtain ⟨rb, rfl⟩ := Int.eq_ofNat_of_zero_le (show 0 ≤ sb by omega)
          obtain ⟨ca, rfl⟩ := Int.eq_ofNat_of_zero_le hok.2.2.2.1
          obtain ⟨cb, rfl⟩ := Int.eq_ofNat_of_zero_le (show 0 ≤ sd by omega)
          have HT : Hid (trimL ss = cutL ss ra ca cb (rb + 1 - ra)) := by
            show trimL ss = _
            rw [HTL.out, cutB, if_neg hneg, cutL_eq ss ra ca cb (rb + 1 - ra) (by omega)]
            rw [show ((rb : Int) + 1 - (ra : Int)).toNat = rb + 1 - ra by omega, show ((cb : Int) + 1).toNat = cb + 1 by omega, Int.toNat_natCast, Int.toNat_natCast]
          have hk1 := Blk.new V 60 #[.slice none 0 0]
          have s0' := r0.alloc (.cells #[.slice none 0 0] 60)
          have t1' := r1.alloc (.cells #[.slice none 0 0] 60)
          have hbV := r2.alloc r2.size (.cells #[.slice none 0 0] 60)
          have hzV : (V.alloc (.cells #[.slice none 0 0] 60)).heap.size = V.heap.size + 1 := by simp
          have hrb : ra ≤ rb ∧ rb < ss.length := by omega
          have hcb : ca ≤ cb ∧ cb < (gs ss 0).size := by omega
          have hVz : w.heap.size + 2 ≤ V.heap.size := by have := r1.lt; omega
          clear r0 r1 hok hneg HTL r2
          go_wp2
          generalize V.alloc (.cells #[.slice none 0 0] 60) = Y at *
          obtain ⟨G, hG⟩ : ∃ G, G = V.heap.size := ⟨_, rfl⟩
          rw [← hG] at hk1 hzV ⊢
          have hGw : w.heap.size + 2 ≤ G := by omega
          clear hG
          go_loopw [11] (fun i wr => ∃ (k : Nat) (A' : Option Addr) (c' : Nat), i = .int .i64 k ∧ ra ≤ k ∧ k ≤ rb + 1 ∧ Blk wr G 60 #[.slice A' (k - ra) c'] ∧ Blk wr w.heap.size 60 #[.slice (some ⟨b, o, none⟩) ss.length c] ∧ Blk wr (w.heap.size + 1) 60 #[.slice none 0 0] ∧ Own wr Y.heap.size 9 (.slice A' (k - ra) c') (scells (cutL ss ra ca cb (k - ra))) ∧ Below w.heap.size w wr ∧ Y.heap.size ≤ wr.heap.size) (fun i _ => rb + 1 - (intOf i).toNat)
          case atStart => exact ⟨ra, none, 0, rfl, by omega, by omega, by rw [Nat.sub_self]; exact hk1, s0', t1', by rw [Nat.sub_self]; exact own_none _ _ _, hbV, Nat.le_refl _⟩
          case round =>
            clear hk1 t1' hbV s0'
            obtain ⟨k, A', c', rfl, hka, hkn, e4, e0, e1, ho, hbb, hzv⟩ := hrel
            by_cases hkl : k < rb + 1
            · have hrk : k < ss.length := by omega
              have hklI : (k : Int) ≤ (rb : Int) := by omega
              have qk := HR.out wr hbb k hrk
              have hsk := (HBP.out.2.2 k hrk).1
              have hcz : cb + 1 ≤ (gs ss k).size := by omega
              have hczI : (cb : Int) + 1 ≤ ((gs ss k).size : Int) := by omega
              have HX : Hid (cutL ss ra ca cb (k + 1 - ra) = cutL ss ra ca cb (k - ra) ++ [(gs ss k).extract ca (cb + 1)]) := by
                show _ = _
                rw [show k + 1 - ra = (k - ra) + 1 by omega, cutL, show ra + (k - ra) = k by omega]
              have hwc : IntKind.i64.wrap ((cb : Int) + 1) = ((cb + 1 : Nat) : Int) := by rw [IntKind.wrap_i64]; omega
              have hwc1 : ((cb + 1 : Nat) : Int) ≤ ((gs ss k).size : Int) := by omega
              have hwc2 : (ca : Int) ≤ ((cb + 1 : Nat) : Int) := by omega
              have hwc3 : (0 : Int) ≤ (cb : Int) + 1 := by omega
              have hwc4 : (ca : Int) ≤ (cb : Int) + 1 := by omega
              obtain ⟨r, hr⟩ : ∃ r, r = gs ss k := ⟨_, rfl⟩
              rw [← hr] at qk hcz hczI HX hwc1
              have HM : Hid (k - ra + 1 = k + 1 - ra) := by show _ = _; omega
              have hm8 : k - ra ≤ 8 := by omega
              generalize k - ra = m at *
              have q4 : wr.cell? ⟨G, 0, none⟩ = some (.slice A' m c') := e4.cell 0
              have q4a : ∀ o', (wr.alloc o').cell? ⟨G, 0, none⟩ = some (.slice A' m c') := fun o' => (e4.alloc o').cell 0
              have q0 : wr.cell? ⟨w.heap.size, 0, none⟩ = some (.slice (some ⟨b, o, none⟩) ss.length c) := e0.cell 0
              have z4 := e4.frozen 0
              have HO := Lib.hid ho; have HE4 := Lib.hid e4; have HE1 := Lib.hid e1; have HE0 := Lib.hid e0
              have HN : Hid ((scells (cutL ss ra ca cb m)).length = m) := by show _ = _; rw [scells_len, cutL_len]
              have E5 : Hid ((scells (cutL ss ra ca cb m)).length + [Value.string (r.extract ca (cb + 1))].length = m + 1) := by show _ = _; rw [HN.out]; rfl
              clear ho e4 e1 e0 hsk hr
              go_wp2
              go_region_law
                (first
                  | (refine step_append_rd (by rfl) (.tmp 66) (.tmp 76) 53 9 (.string ByteArray.empty) 16 (by rfl) Tryd.underlying53 infoStr rfl (by omega) Y.heap.size (.slice A' m c') (scells (cutL ss ra ca cb m)) (by rfl) ((HO.out.below (gdrew (a := wr))).below (bel1 _ _)) _ _ 1 1 [.string (r.extract ca (cb + 1))] (by rfl) rfl (Rd.of_blk (Blk.new _ _ _) (Nat.lt_succ_self _)) (fun u hu => by simp at hu; subst hu; rfl) (by rw [HN.out]; simp; omega) (by simp; omega) ?_; intro A5 c5 w5 ho5 hb5 hg5; have hne : ∀ g, g < Y.heap.size → some g ≠ (Value.slice A' m c').ownBlock := (fun g hg he => by have := (HO.out.lt g he.symm).1; omega); have f5 := ((HE4.out.below (gdrew (a := wr)) HE4.out.lt).alloc (.cells #[.string (r.extract ca (cb + 1))] 9)).grown hg5 (hne _ (by omega)); have f1 := ((HE1.out.below (gdrew (a := wr)) HE1.out.lt).alloc (.cells #[.string (r.extract ca (cb + 1))] 9)).grown hg5 (hne _ (by omega)); have f0 := ((HE0.out.below (gdrew (a := wr)) HE0.out.lt).alloc (.cells #[.string (r.extract ca (cb + 1))] 9)).grown hg5 (hne _ (by omega)); have s5 : w5.cell? ⟨G, 0, none⟩ = some (.slice A' m c') := f5.cell 0; have z5 := f5.frozen 0; rw [E5.out] at ho5 ⊢))
              all_goals
                have HO5 : Hid (Own w5 Y.heap.size 9 (.slice A5 (k + 1 - ra) c5) (scells (cutL ss ra ca cb (k + 1 - ra)))) := by
                  show Own _ _ _ _ _
                  rw [HX.out, ← HM.out]
                  have e : scells (cutL ss ra ca cb m ++ [r.extract ca (cb + 1)]) = scells (cutL ss ra ca cb m) ++ [.string (r.extract ca (cb + 1))] := scells_snoc _ _
                  rw [e]; exact ho5
                clear ho5
                go_wp2
                go_roundw
                case rel =>
                  have hz5 := hb5.size
                  simp at hz5
                  refine ⟨k + 1, A5, c5, by go_num, by omega, by omega, by rw [← HM.out]; exact f5.set 0 _, f0.far (by dsimp only; omega) _, f1.far (by dsimp only; omega) _, HO5.out.far' _ _ (by dsimp only; omega), ?_, by simp; omega⟩
                  exact (((gtr hbb (gdrew (a := wr))).alloc (by have := hbb.size; show w.heap.size ≤ wr.heap.size; omega) _).trans (hb5.mono (by omega))).setCell (by dsimp only; omega) _
                case measure => simp [intOf]; omega
            · obtain rfl : k = rb + 1 := by omega
              have HL : Hid ((cutL ss ra ca cb (rb + 1 - ra)).length = rb + 1 - ra) := cutL_len _ _ _ _ _
              generalize rb + 1 - ra = m at *
              have z1 : wr.cell? ⟨w.heap.size + 1, 0, none⟩ = some (.slice none 0 0) := e1.cell 0
              have z2 := e1.frozen 0
              have q4 : wr.cell? ⟨G, 0, none⟩ = some (.slice A' m c') := e4.cell 0
              have HO := Lib.hid ho; have HB := Lib.hid hbb
              have hnl : ¬ (rb : Int) + 1 ≤ (rb : Int) := by omega
              clear ho hbb e1 e4 e0
              go_wp2
              refine bodyPost_ret (v := .agg #[.slice A' m c']) (by simp [results, Tryd.results147, go_sem, z1]) rfl ⟨A', c', by rw [HT.out, HL.out], ?_, ?_⟩
              · rw [HT.out, HL.out]
                exact (HO.out.far' _ _ (by dsimp only; omega)).le (by omega)
              · exact HB.out.setCell (by dsimp only; omega) _
end Go.Proofs.YtadljglcbieifaaDoor
