/- TreeValue of the program: contract. Conditions: none. -/
import Derived.Test.YtidfbbegjpfjpaaDoorTv2
import Derived.Test.YtidfbbegjpfjpaaDoorQTail
namespace Go.Proofs.YtidfbbegjpfjpaaDoor
open Go.RowKit
set_option linter.unusedVariables false

theorem infoDy : (Tryd.prog.info? 44).map (fun i => (i.zero, i.size, i.bytes)) = some (some (.agg #[.int .i64 0, .int .i64 0]), 2, 16) := by kernel_rfl
/-- The cells of the first k numbers. -/
def dyC (f : Nat → Int) : Nat → List Value
  | 0 => []
  | k + 1 => dyC f k ++ [.int .i64 (nf (f k)).1, .int .i64 (nf (f k)).2]
theorem dyC_len (f : Nat → Int) (k : Nat) : (dyC f k).length = k * 2 := by
  induction k with
  | zero => rfl
  | succ k ih => show (dyC f k ++ _).length = _; rw [List.length_append, ih]; simp; omega
theorem dyC_congr {f g : Nat → Int} (k : Nat) (h : ∀ j, j < k → f j = g j) : dyC f k = dyC g k := by
  induction k with
  | zero => rfl
  | succ k ih => show dyC f k ++ _ = dyC g k ++ _; rw [ih fun j hj => h j (by omega), h k (by omega)]
theorem dyC_at (f : Nat → Int) (k i : Nat) (h : i < k) : (dyC f k)[i * 2]? = some (.int .i64 (nf (f i)).1) ∧ (dyC f k)[i * 2 + 1]? = some (.int .i64 (nf (f i)).2) := by
  induction k with
  | zero => omega
  | succ k ih =>
    show (dyC f k ++ _)[_]? = _ ∧ (dyC f k ++ _)[_]? = _
    have hl := dyC_len f k
    by_cases hik : i = k
    · subst hik
      rw [List.getElem?_append_right (by omega), List.getElem?_append_right (by omega), hl]
      simp
    · rw [List.getElem?_append_left (by omega), List.getElem?_append_left (by omega)]
      exact ih (by omega)
theorem dyC_set (f : Nat → Int) (k i : Nat) (h : i < k) (x : Int) : ((dyC f k).set (i * 2) (.int .i64 (nf x).1)).set (i * 2 + 1) (.int .i64 (nf x).2) = dyC (fun j => if j = i then x else f j) k := by
  induction k with
  | zero => omega
  | succ k ih =>
    show ((dyC f k ++ _).set _ _).set _ _ = dyC _ k ++ _
    have hl := dyC_len f k
    by_cases hik : i = k
    · subst hik
      have e : dyC (fun j => if j = i then x else f j) i = dyC f i := dyC_congr i fun j hj => if_neg (by omega)
      have e2 : (if i = i then x else f i) = x := if_pos rfl
      rw [List.set_append_right _ _ (by omega), List.set_append_right _ _ (by omega), hl, Nat.sub_self, show i * 2 + 1 - i * 2 = 1 by omega, e]
      dsimp only
      rw [e2]
      rfl
    · rw [List.set_append_left _ _ (by omega), List.set_append_left _ _ (by rw [List.length_set]; omega), ih (by omega)]
      have e2 : (if k = i then x else f k) = f k := if_neg (fun e => hik e.symm)
      dsimp only
      rw [e2]

set_option maxRecDepth 100000 in
set_option maxHeartbeats 12800000 in
theorem treeValI_any (A : Option Addr) (c : Nat) (xs : List Int) (s : ByteArray) (w : World) (B : Nat) (hB : B ≤ w.heap.size) (h : RdI w B A c xs) (hs : s.size ≤ maxLen) :
    Calls Tryd.prog 36 #[.agg #[.slice A xs.length c, .string s]] w fun e w' => e = .returned (tvV (treeVal xs s)) ∧ Below w.heap.size w w' := by
  have h1 := h.len
  have h2 := h.max
  go_enter Tryd.func36, Tryd.ntmps36
  go_wp2_with fail
  obtain ⟨W, hW⟩ : ∃ W, W = (w.alloc (.cells #[.slice A xs.length c, .string s] 29)).alloc (.cells #[.int .i64 0, .int .i64 0] 44) := ⟨_, rfl⟩
  have e0 : Blk W w.heap.size 29 #[.slice A xs.length c, .string s] := by rw [hW]; exact (Blk.new w _ _).alloc _
  have e1 : Blk W (w.heap.size + 1) 44 #[.int .i64 0, .int .i64 0] := by rw [hW]; exact Blk.new_at (w.alloc _) _ _ (by simp)
  have hAW : Below w.heap.size w W := by rw [hW]; exact bel2 _ _ _
  have hzW : w.heap.size + 2 ≤ W.heap.size := by rw [hW]; simp
  rw [← hW]
  clear hW
  have hrW := h.below hAW hB
  cases hg : treeB xs s
  · have HT : Hid (tvV (treeVal xs s) = .tuple #[.agg #[.int .i64 0, .int .i64 0], .bool false]) := by show _ = _; rw [treeVal, hg]; rfl
    refine (goodTreeI_any A c xs s W B (by omega) hrW hs).mono ?_; rintro e w1 ⟨rfl, hb1⟩
    have f1 := e1.below hb1 e1.lt
    have q0 : w1.cell? ⟨w.heap.size + 1, 0, none⟩ = some (.int .i64 0) := f1.cell 0
    have q1 : w1.cell? ⟨w.heap.size + 1, 1, none⟩ = some (.int .i64 0) := f1.cell 1
    have z0 := f1.frozen 0
    have z1 := f1.frozen 1
    go_wp2
    exact bodyPost_ret (v := .tuple #[.agg #[.int .i64 0, .int .i64 0], .bool false]) (by simp [results, Tryd.results36, go_sem, q0, q1]) rfl ⟨by rw [HT.out], ((gtr hAW hb1).setCell (by dsimp only; omega) _).setCell (by dsimp only; omega) _⟩
  · obtain ⟨t1, t2, t3, t4⟩ := treeB_of hg
    have h8 : xs.length ≤ 8 := by omega
    obtain ⟨i0, hi, hz0, hzs, hzb⟩ := info_parts infoDy
    have HT : Hid (tvV (treeVal xs s) = .tuple #[dyP (nf (tv (gi xs) (isL s) xs.length xs.length 0)), .bool true]) := by show _ = _; rw [treeVal, hg, if_pos rfl]; rfl
    have HU := Lib.hid (gi_up t4); have HA := Lib.hid t1; have HN := Lib.hid t3; have HS8 := Lib.hid t2
    have HGS : Hid (∀ V, B ≤ V.heap.size → RdI V B A c xs → Calls Tryd.prog 24 #[.agg #[.slice A xs.length c, .string s]] V fun e w' => e = .returned (.bool true) ∧ Below V.heap.size V w') := fun V hV hr => by
      have := goodTreeI_any A c xs s V B hV hr hs
      rwa [hg] at this
    clear t1 t2 t3 t4 hg
    refine (HGS.out W (by omega) hrW).mono ?_; rintro e w1 ⟨rfl, hb1⟩
    have f0 := e0.below hb1 e0.lt
    have f1 := e1.below hb1 e1.lt
    have g1 := gtr hAW hb1
    have hz1 := hb1.size
    have q00 : w1.cell? ⟨w.heap.size, 0, none⟩ = some (.slice A xs.length c) := f0.cell 0
    have hw : IntKind.i64.wrap ((xs.length : Int) + 1) = ((xs.length + 1 : Nat) : Int) := by rw [IntKind.wrap_i64]; omega
    clear e0 e1 HGS
    go_wp2_with (at_make; refine wpList_make_full _ rfl _ _ _ rfl w1.heap.size 44 i0 (.agg #[.int .i64 0, .int .i64 0]) 2 Tryd.underlying109 hi hz0 hzs .i64 .i64 _ _ (xs.length + 1) rfl rfl rfl rfl (by rw [hzb]; omega) (by unfold maxLen; omega) (Nat.le_refl _) ?_; intro w2 ho2 hg2; have hb2 := below_of_grown hg2; have k0 := f0.below hb2 f0.lt; have k1 := f1.below hb2 f1.lt; have q20 : w2.cell? ⟨w.heap.size, 0, none⟩ = some (.slice A xs.length c) := k0.cell 0)
    have g2 := gtr g1 hb2
    have hR2 : w1.heap.size < w2.heap.size := (ho2.lt _ rfl).2
    have hmade : (madeCells (Value.agg #[.int .i64 0, .int .i64 0]).cells ((xs.length + 1) * 2)).toList = dyC (tv (gi xs) (isL s) xs.length 0) (xs.length + 1) := by
      refine List.ext_getElem? fun i => ?_
      by_cases hlt : i < (xs.length + 1) * 2
      · have hz : nf 0 = (0, 0) := by decide
        have hj : i / 2 < xs.length + 1 := by omega
        obtain ⟨y0, y1⟩ := dyC_at (tv (gi xs) (isL s) xs.length 0) (xs.length + 1) (i / 2) hj
        have y0' : (dyC (tv (gi xs) (isL s) xs.length 0) (xs.length + 1))[i / 2 * 2]? = some (.int .i64 0) := by rw [y0]; show some (Value.int .i64 (nf 0).1) = _; rw [hz]
        have y1' : (dyC (tv (gi xs) (isL s) xs.length 0) (xs.length + 1))[i / 2 * 2 + 1]? = some (.int .i64 0) := by rw [y1]; show some (Value.int .i64 ((nf 0).2 : Nat)) = _; rw [hz]; rfl
        have hl : (madeCells (Value.agg #[.int .i64 0, .int .i64 0]).cells ((xs.length + 1) * 2)).toList[i]? = some (.int .i64 0) := by
          rw [List.getElem?_eq_getElem (by simpa [madeCells] using hlt)]
          simp only [madeCells, Array.toList_map, List.getElem_map, Array.toList_range, List.getElem_range]
          have : i % 2 = 0 ∨ i % 2 = 1 := by omega
          show some ((#[Value.int .i64 0, .int .i64 0])[i % 2]!) = _
          rcases this with e | e <;> rw [e] <;> rfl
        rw [hl]
        have : i = i / 2 * 2 ∨ i = i / 2 * 2 + 1 := by omega
        rcases this with e | e <;> rw [e]
        · exact y0'.symm
        · exact y1'.symm
      · rw [List.getElem?_eq_none (by simpa [madeCells] using Nat.le_of_not_lt hlt), List.getElem?_eq_none (by rw [dyC_len]; omega)]
    rw [hmade] at ho2
    obtain ⟨R, hR⟩ : ∃ R, R = w1.heap.size := ⟨_, rfl⟩
    rw [← hR] at ho2 hR2 ⊢
    have hRw : w.heap.size + 2 ≤ R := by omega
    clear hmade hR hw q20 q00 hg2 hb2 f0 f1 hb1 g1 hz1 hi hz0 hzs hzb
    have HSTEP : Hid (∀ m j, j + m + 1 = xs.length → ∃ U : Nat, U ≤ j ∧ gi xs j + 1 = (U : Int) ∧ FitK (tv (gi xs) (isL s) xs.length m (j + 1)) 7 ∧ FitK (edV (isL s j) (tv (gi xs) (isL s) xs.length m (j + 1))) 8 ∧
        (∀ V, Calls Tryd.prog 92 #[dyP (nf (tv (gi xs) (isL s) xs.length m U)), dyP (nf (edV (isL s j) (tv (gi xs) (isL s) xs.length m (j + 1))))] V fun e w' => e = .returned (.tuple #[dyP (nf (tv (gi xs) (isL s) xs.length m U + edV (isL s j) (tv (gi xs) (isL s) xs.length m (j + 1)))), .bool true]) ∧ Below V.heap.size V w') ∧
        (∀ i, (if i = U then tv (gi xs) (isL s) xs.length m U + edV (isL s j) (tv (gi xs) (isL s) xs.length m (j + 1)) else tv (gi xs) (isL s) xs.length m i) = tv (gi xs) (isL s) xs.length (m + 1) i)) := by
      intro m j hj
      have hu := HU.out j (by omega)
      obtain ⟨U, hU⟩ := Int.eq_ofNat_of_zero_le (show 0 ≤ gi xs j + 1 by omega)
      have hUj : U ≤ j := by omega
      have c1 := tc_le (gi xs) xs.length HU.out m (j + 1) (by omega) (by omega)
      have f1 := tv_fit (gi xs) (isL s) xs.length h8 HU.out m (j + 1) (by omega) (by omega)
      have f2 := edV_fit (b := isL s j) f1 (by omega)
      have f3 := tv_fit (gi xs) (isL s) xs.length h8 HU.out m U (by omega) (by omega)
      have c2 := tc_le (gi xs) xs.length HU.out (m + 1) U (by omega) (by omega)
      have e : tc (gi xs) xs.length (m + 1) U = tc (gi xs) xs.length m U + if gi xs (xs.length - 1 - m) + 1 = U then tc (gi xs) xs.length m (xs.length - m) + 1 else 0 := rfl
      rw [e, show xs.length - 1 - m = j by omega, if_pos hU, show xs.length - m = j + 1 by omega] at c2
      refine ⟨U, hUj, hU, f1.mono (by omega), f2.mono (by omega), fun V => addDy_any _ _ _ _ f3 f2 (by omega) V, fun i => ?_⟩
      show _ = tv (gi xs) (isL s) xs.length m i + if gi xs (xs.length - 1 - m) + 1 = i then edV (isL s (xs.length - 1 - m)) (tv (gi xs) (isL s) xs.length m (xs.length - m)) else 0
      rw [show xs.length - 1 - m = j by omega, show xs.length - m = j + 1 by omega]
      by_cases hi : i = U
      · subst hi; rw [if_pos rfl, if_pos hU]
      · rw [if_neg hi, if_neg (by omega), Int.add_zero]
    generalize tv (gi xs) (isL s) xs.length = T at *
    clear HU
    go_loopw [5] (fun i wr => ∃ m : Nat, m ≤ xs.length ∧ ((m = xs.length ∧ i = .int .i64 (-1)) ∨ ∃ j : Nat, j + m + 1 = xs.length ∧ i = .int .i64 j) ∧ Below w.heap.size w wr ∧ Blk wr w.heap.size 29 #[.slice A xs.length c, .string s] ∧ Blk wr (w.heap.size + 1) 44 #[.int .i64 0, .int .i64 0] ∧
      wr.ownsRow R 44 2 (.slice (some ⟨R, 0, none⟩) (xs.length + 1) (xs.length + 1)) (xs.length + 1) (dyC (T m) (xs.length + 1)) ∧ R < wr.heap.size) (fun i _ => ((intOf i) + 1).toNat)
    case atStart =>
      refine ⟨0, by omega, ?_, g2, k0, k1, ho2, hR2⟩
      by_cases h0 : xs.length = 0
      · left; exact ⟨h0.symm, by rw [h0]; rfl⟩
      · right; exact ⟨xs.length - 1, by omega, by congr 1; omega⟩
    case round =>
      clear g2 k0 k1 ho2 hR2
      obtain ⟨m, hm, hcase, hb, e0, e1, ho, hz⟩ := hrel
      rcases hcase with ⟨rfl, rfl⟩ | ⟨j, hj, rfl⟩
      · obtain ⟨x1, x2, hx⟩ : ∃ a b, nf (T xs.length 0) = (a, b) := ⟨_, _, rfl⟩
        have HT2 : Hid (tvV (treeVal xs s) = .tuple #[.agg #[.int .i64 x1, .int .i64 x2], .bool true]) := by show _ = _; rw [HT.out, dyP_eq hx]
        obtain ⟨y0, y1⟩ := dyC_at (T xs.length) (xs.length + 1) 0 (by omega)
        rw [hx] at y0 y1
        have c0 := ho.cells (g := R) rfl _ _ y0
        have c1 := ho.cells (g := R) rfl _ _ y1
        rw [add_none] at c0 c1
        rw [Nat.zero_mul] at c0 c1
        have r0 : wr.cell? ⟨w.heap.size + 1, 0, none⟩ = some (.int .i64 0) := e1.cell 0
        have r1 : wr.cell? ⟨w.heap.size + 1, 1, none⟩ = some (.int .i64 0) := e1.cell 1
        have z0 := e1.frozen 0
        have z1 := e1.frozen 1
        clear e0 e1 ho hx y0 y1
        go_wp2
        exact bodyPost_ret (v := .tuple #[.agg #[.int .i64 x1, .int .i64 x2], .bool true]) (by simp [results, Tryd.results36, go_sem, r0, r1]) rfl ⟨by rw [HT2.out], (hb.setCell (by dsimp only; omega) _).setCell (by dsimp only; omega) _⟩
      · have hjn : j < xs.length := by omega
        have hjs : j < s.size := by rw [← HN.out]; exact hjn
        obtain ⟨U, hUj, hUI, hf1, hf2, hadd, hstep⟩ := HSTEP.out m j hj
        obtain ⟨x1, x2, hx⟩ : ∃ a b, nf (T m (j + 1)) = (a, b) := ⟨_, _, rfl⟩
        obtain ⟨v1, v2, hv⟩ : ∃ a b, nf (edV (isL s j) (T m (j + 1))) = (a, b) := ⟨_, _, rfl⟩
        obtain ⟨y1, y2, hy⟩ : ∃ a b, nf (T m U) = (a, b) := ⟨_, _, rfl⟩
        obtain ⟨z1, z2, hzz⟩ : ∃ a b, nf (T m U + edV (isL s j) (T m (j + 1))) = (a, b) := ⟨_, _, rfl⟩
        have HNEW : Hid (((dyC (T m) (xs.length + 1)).set (U * 2) (.int .i64 z1)).set (U * 2 + 1) (.int .i64 z2) = dyC (T (m + 1)) (xs.length + 1)) := by
          show _ = _
          have := dyC_set (T m) (xs.length + 1) U (by omega) (T m U + edV (isL s j) (T m (j + 1)))
          rw [hzz] at this
          exact this.trans (dyC_congr _ fun i _ => hstep i)
        have HADD : Hid (∀ V, Calls Tryd.prog 92 #[.agg #[.int .i64 y1, .int .i64 y2], .agg #[.int .i64 v1, .int .i64 v2]] V fun e w' => e = .returned (.tuple #[.agg #[.int .i64 z1, .int .i64 z2], .bool true]) ∧ Below V.heap.size V w') := fun V => by
          have h := hadd V
          rw [dyP_eq hy, dyP_eq hv, dyP_eq hzz] at h
          exact h
        have HC : Hid (∀ V : World, V.ownsRow R 44 2 (.slice (some ⟨R, 0, none⟩) (xs.length + 1) (xs.length + 1)) (xs.length + 1) (dyC (T m) (xs.length + 1)) →
            V.cell? ⟨R, (j + 1) * 2, none⟩ = some (.int .i64 x1) ∧ V.cell? ⟨R, (j + 1) * 2 + 1, none⟩ = some (.int .i64 x2) ∧ V.cell? ⟨R, U * 2, none⟩ = some (.int .i64 y1) ∧ V.cell? ⟨R, U * 2 + 1, none⟩ = some (.int .i64 y2)) := fun V ho => by
          obtain ⟨a0, a1⟩ := dyC_at (T m) (xs.length + 1) (j + 1) (by omega)
          obtain ⟨b0, b1⟩ := dyC_at (T m) (xs.length + 1) U (by omega)
          rw [hx] at a0 a1
          rw [hy] at b0 b1
          have c0 := ho.cells (g := R) rfl _ _ a0
          have c1 := ho.cells (g := R) rfl _ _ a1
          have d0 := ho.cells (g := R) rfl _ _ b0
          have d1 := ho.cells (g := R) rfl _ _ b1
          rw [add_none] at c0 c1 d0 d1
          simp only [Nat.zero_add] at c0 c1 d0 d1
          exact ⟨c0, c1, d0, d1⟩
        have hlowx := hf1.low (by decide)
        have hlowv := hf2.low (by decide)
        rw [hx] at hlowx
        rw [hv] at hlowv
        have hxb1 : -2048 ≤ x1 := hlowx.2.1
        have hxb2 : x1 ≤ 2048 := hlowx.2.2.1
        have hvb1 : -2048 ≤ v1 := hlowv.2.1
        have hvb2 : v1 ≤ 2048 := hlowv.2.2.1
        have hat := isL_at HA.out hjs
        have HUI := Lib.hid hUI
        have hUw : IntKind.i64.wrap (gi xs j + 1) = (U : Int) := by rw [hUI, IntKind.wrap_i64]; omega
        have hjw : IntKind.i64.wrap ((j : Int) + 1) = ((j + 1 : Nat) : Int) := by rw [IntKind.wrap_i64]; omega
        have q0 : wr.cell? ⟨w.heap.size, 0, none⟩ = some (.slice A xs.length c) := e0.cell 0
        have q1 : wr.cell? ⟨w.heap.size, 1, none⟩ = some (.string s) := e0.cell 1
        obtain ⟨bb, o, rfl, hbB, hc⟩ := (h.below hb hB).at (j := j) hjn
        have hup := hc j hjn
        obtain ⟨c0, c1, -, -⟩ := HC.out _ ho
        have E0 := Lib.hid e0; have E1 := Lib.hid e1; have HO := Lib.hid ho
        clear hc hadd hstep hy hzz hlowx hlowv hUI e0 e1 ho
        cases hl : isL s j
        · rw [hl] at hat hv
          have hv' : nf (-on (-T m (j + 1))) = (v1, v2) := hv
          have hvn := nf_neg hv'
          rw [Int.neg_neg] at hvn
          have HEV : Hid (∀ V, Calls Tryd.prog 91 #[.agg #[.int .i64 (-x1), .int .i64 x2]] V fun e w' => e = .returned (.tuple #[.agg #[.int .i64 (-v1), .int .i64 v2], .bool true]) ∧ Below V.heap.size V w') := fun V => by
            have h := edgeValue_any (-T m (j + 1)) 7 hf1.neg (by decide) V
            rw [dyP_eq (nf_neg hx), dyP_eq hvn] at h
            exact h
          have HN1 := Lib.hid (fun V => negDy_any x1 x2 V (by omega) (by omega))
          have HN2 : Hid (∀ V, Calls Tryd.prog 84 #[.agg #[.int .i64 (-v1), .int .i64 v2]] V fun e w' => e = .returned (.agg #[.int .i64 v1, .int .i64 v2]) ∧ Below V.heap.size V w') := fun V => by
            have h := negDy_any (-v1) v2 V (by omega) (by omega)
            rw [Int.neg_neg] at h
            exact h
          clear hv' hvn
          clear hv hx hf1 hf2 hl
          have hA1 : ∀ o', (wr.alloc o').cell? ⟨w.heap.size, 1, none⟩ = some (.string s) := fun o' => (E0.out.alloc o').cell 1
          go_wp2_with fail
          have k2 := Blk.new wr 44 #[.int .i64 x1, .int .i64 x2]
          have gB := bel1 wr (.cells #[.int .i64 x1, .int .i64 x2] 44)
          have hzV : wr.heap.size < (wr.alloc (.cells #[.int .i64 x1, .int .i64 x2] 44)).heap.size := by simp
          clear hA1 c0 c1
          generalize wr.alloc (.cells #[.int .i64 x1, .int .i64 x2] 44) = V at *
          ((with_reducible refine (HN1.out _).mono ?_); rintro e w3 ⟨rfl, hb3⟩)
          have l2 := k2.below hb3 hzV
          have gB3 := gB.trans (hb3.mono (by omega))
          have q0 : w3.cell? ⟨wr.heap.size, 0, none⟩ = some (.int .i64 x1) := l2.cell 0
          have q1 : w3.cell? ⟨wr.heap.size, 1, none⟩ = some (.int .i64 x2) := l2.cell 1
          have z0 := l2.frozen 0
          have z1 := l2.frozen 1
          clear hb3 gB k2
          go_wp2_with fail
          have l3 : Blk ((w3.setCell ⟨wr.heap.size, 0, none⟩ (.int .i64 (-x1))).setCell ⟨wr.heap.size, 1, none⟩ (.int .i64 x2)) wr.heap.size 44 #[.int .i64 (-x1), .int .i64 x2] := (l2.set 0 _).set 1 _
          have gB5 : Below wr.heap.size wr ((w3.setCell ⟨wr.heap.size, 0, none⟩ (.int .i64 (-x1))).setCell ⟨wr.heap.size, 1, none⟩ (.int .i64 x2)) := (gB3.setCell (Nat.le_refl _) _).setCell (Nat.le_refl _) _
          clear q0 q1 z0 z1 gB3 l2
          generalize (w3.setCell ⟨wr.heap.size, 0, none⟩ (.int .i64 (-x1))).setCell ⟨wr.heap.size, 1, none⟩ (.int .i64 x2) = V3 at *
          ((with_reducible refine (HEV.out _).mono ?_); rintro e w4 ⟨rfl, hb4⟩)
          have gB6 := gB5.trans (hb4.mono gB5.size)
          clear hb4 gB5 l3
          have m7 := Blk.new w4 44 #[.int .i64 (-v1), .int .i64 v2]
          have gB4 : Below wr.heap.size wr (w4.alloc (.cells #[.int .i64 (-v1), .int .i64 v2] 44)) := gB6.alloc gB6.size _
          have hzW4 : wr.heap.size ≤ w4.heap.size := gB6.size
          have hA4 : ∀ o', (w4.alloc o').cell? ⟨w.heap.size, 1, none⟩ = some (.string s) := fun o' => ((E0.out.below gB6 E0.out.lt).alloc o').cell 1
          go_wp2_with fail
          clear hA4
          generalize w4.alloc (.cells #[.int .i64 (-v1), .int .i64 v2] 44) = V4 at *
          have hzV4 := m7.lt
          ((with_reducible refine (HN2.out _).mono ?_); rintro e w5 ⟨rfl, hb5⟩)
          have n7 := m7.below hb5 hzV4
          have gB7 := gB4.trans (hb5.mono (by omega))
          have q0 : w5.cell? ⟨w4.heap.size, 0, none⟩ = some (.int .i64 (-v1)) := n7.cell 0
          have q1 : w5.cell? ⟨w4.heap.size, 1, none⟩ = some (.int .i64 v2) := n7.cell 1
          have z0 := n7.frozen 0
          have z1 := n7.frozen 1
          go_wp2_with fail
          have gZ : Below wr.heap.size wr ((w5.setCell ⟨w4.heap.size, 0, none⟩ (.int .i64 v1)).setCell ⟨w4.heap.size, 1, none⟩ (.int .i64 v2)) := (gB7.setCell (by dsimp only; omega) _).setCell (by dsimp only; omega) _
          have hb7 : Blk ((w5.setCell ⟨w4.heap.size, 0, none⟩ (.int .i64 v1)).setCell ⟨w4.heap.size, 1, none⟩ (.int .i64 v2)) w4.heap.size 44 #[.int .i64 v1, .int .i64 v2] := (n7.set 0 _).set 1 _
          have hzY := hb7.lt
          clear q0 q1 z0 z1 n7 gB7 m7 gB4
          generalize ((w5.setCell ⟨w4.heap.size, 0, none⟩ (.int .i64 v1)).setCell ⟨w4.heap.size, 1, none⟩ (.int .i64 v2)) = Y at *
          have t0 : Y.cell? ⟨w.heap.size, 0, none⟩ = some (.slice (some ⟨bb, o, none⟩) xs.length c) := (E0.out.below gZ E0.out.lt).cell 0
          have hup1 : Y.cell? ⟨bb, o + j, none⟩ = some (.int .i64 (gi xs j)) := (gZ.cell (p := ⟨bb, o + j, none⟩) (by show bb < _; have := hb.size; omega)).trans hup
          obtain ⟨-, -, d0, d1⟩ := HC.out _ (ownsRow_below HO.out gZ (fun g hg => (HO.out.lt g hg).2))
          have p0 : Y.cell? ⟨w4.heap.size, 0, none⟩ = some (.int .i64 v1) := hb7.cell 0
          have p1 : Y.cell? ⟨w4.heap.size, 1, none⟩ = some (.int .i64 v2) := hb7.cell 1
          have hUlt : (U : Int) < (xs.length : Int) + 1 := by omega
          have hU0 : (0 : Int) ≤ (U : Int) := by omega
          go_wp2
          have hYs : wr.heap.size ≤ Y.heap.size := gZ.size
          have hw0 : w.heap.size < Y.heap.size := by omega
          have hbbY : bb < Y.heap.size := by have := hb.size; omega
          have hRY : R < Y.heap.size := by omega
          have hnR1 : ¬ R = w.heap.size := by omega
          have hnR2 : ¬ w.heap.size = R := by omega
          have hnR3 : ¬ R = bb := by omega
          have hnR4 : ¬ bb = R := by omega
          have hnR5 : ¬ R = w4.heap.size := by omega
          have hnR6 : ¬ w4.heap.size = R := by omega
          refine wp_region_noPanic ?_
          refine wp_region_held_drew (S := fun wq => wq.cell? ⟨w.heap.size, 0, none⟩ = some (.slice (some ⟨bb, o, none⟩) xs.length c) ∧ wq.cell? ⟨bb, o + j, none⟩ = some (.int .i64 (gi xs j)) ∧ wq.cell? ⟨w4.heap.size, 0, none⟩ = some (.int .i64 v1) ∧ wq.cell? ⟨w4.heap.size, 1, none⟩ = some (.int .i64 v2)) (by kernel_rfl) ⟨t0, hup1, p0, p1⟩ (fun hHeld => ?_)
          refine wpAnyH_take (i := 0) (oi := _) (v := ?vtr0) rfl (by kernel_rfl) (by kernel_rfl) (by kernel_rfl) (fun _ _ _ h => h) (Or.inl ⟨by rfl, ?hyr0⟩) (by assumption) ?_
          case hyr0 => (intro wh hSw; (try dsimp only at hSw); go_simp; try with_reducible rfl)
          simp only [Act.put]
          refine wpAnyH_take (i := 1) (oi := _) (v := ?vtr1) rfl (by kernel_rfl) (by kernel_rfl) (by kernel_rfl) (fun _ _ _ h => h) (Or.inl ⟨by rfl, ?hyr1⟩) (by assumption) ?_
          case hyr1 => (intro wh hSw; (try dsimp only at hSw); go_simp; try with_reducible rfl)
          simp only [Act.put]
          refine wpAnyH_take (i := 2) (oi := _) (v := ?vtr2) rfl (by kernel_rfl) (by kernel_rfl) (by kernel_rfl) (fun _ _ _ h => h) (Or.inl ⟨by rfl, ?hyr2⟩) (by assumption) ?_
          case hyr2 => (intro wh hSw; (try dsimp only at hSw); go_simp; try with_reducible rfl)
          simp only [Act.put]
          refine wpAnyH_take (i := 3) (oi := _) (v := ?vtr3) rfl (by kernel_rfl) (by kernel_rfl) (by kernel_rfl) (fun _ _ _ h => h) (Or.inl ⟨by rfl, ?hyr3⟩) (by assumption) ?_
          case hyr3 => (intro wh hSw; (try dsimp only at hSw); go_simp; try with_reducible rfl)
          simp only [Act.put]
          refine wpAnyH_take (i := 4) (oi := _) (v := ?vtr4) rfl (by kernel_rfl) (by kernel_rfl) (by kernel_rfl) (fun _ _ _ h => h) (Or.inl ⟨by rfl, ?hyr4⟩) (by assumption) ?_
          case hyr4 => (intro wh hSw; (try dsimp only at hSw); go_simp; try with_reducible rfl)
          simp only [Act.put]
          refine wpAnyH_take (i := 5) (oi := _) (v := ?vtr5) rfl (by kernel_rfl) (by kernel_rfl) (by kernel_rfl) (fun _ _ _ h => h) (Or.inl ⟨by rfl, ?hyr5⟩) (by assumption) ?_
          case hyr5 => (intro wh hSw; (try dsimp only at hSw); go_simp; try with_reducible rfl)
          simp only [Act.put]
          refine wpAnyH_take (i := 6) (oi := _) (v := ?vtr6) rfl (by kernel_rfl) (by kernel_rfl) (by kernel_rfl) (fun _ _ _ h => h) (Or.inl ⟨by rfl, ?hyr6⟩) (by assumption) ?_
          case hyr6 => (intro wh hSw; (try dsimp only at hSw); go_simp; try with_reducible rfl)
          simp only [Act.put]
          refine wpAnyH_take (i := 7) (oi := _) (v := ?vtr7) rfl (by kernel_rfl) (by kernel_rfl) (by kernel_rfl) (fun _ _ _ h => h) (Or.inl ⟨by rfl, ?hyr7⟩) (by assumption) ?_
          case hyr7 => (intro wh hSw; (try dsimp only at hSw); go_simp; try with_reducible rfl)
          simp only [Act.put]
          refine wpAnyH_take (i := 8) (oi := _) (v := ?vtr8) rfl (by kernel_rfl) (by kernel_rfl) (by kernel_rfl) (fun _ _ _ h => h) (Or.inl ⟨by rfl, ?hyr8⟩) (by assumption) ?_
          case hyr8 => (intro wh hSw; (try dsimp only at hSw); go_simp; try with_reducible rfl)
          simp only [Act.put]
          refine wpAnyH_take (i := 9) (oi := _) (v := ?vtr9) rfl (by kernel_rfl) (by kernel_rfl) (by kernel_rfl) (fun _ _ _ h => h) (Or.inl ⟨by rfl, ?hyr9⟩) (by assumption) ?_
          case hyr9 => (intro wh hSw; (try dsimp only at hSw); go_simp; try with_reducible rfl)
          simp only [Act.put]
          refine wpAnyH_take (i := 10) (oi := _) (v := ?vtr10) rfl (by kernel_rfl) (by kernel_rfl) (by kernel_rfl) (fun _ _ _ h => h) (Or.inl ⟨by rfl, ?hyr10⟩) (by assumption) ?_
          case hyr10 => (intro wh hSw; (try dsimp only at hSw); go_simp; try with_reducible rfl)
          simp only [Act.put]
          refine wpAnyH_take (i := 11) (oi := _) (v := ?vtr11) rfl (by kernel_rfl) (by kernel_rfl) (by kernel_rfl) (fun _ _ _ h => h) (Or.inl ⟨by rfl, ?hyr11⟩) (by assumption) ?_
          case hyr11 => (intro wh hSw; (try dsimp only at hSw); go_simp; try with_reducible rfl)
          simp only [Act.put]
          refine wpAnyH_take (i := 12) (oi := _) (v := ?vtr12) rfl (by kernel_rfl) (by kernel_rfl) (by kernel_rfl) (fun _ _ _ h => h) (Or.inl ⟨by rfl, ?hyr12⟩) (by assumption) ?_
          case hyr12 => (intro wh hSw; (try dsimp only at hSw); go_simp; try with_reducible rfl)
          simp only [Act.put]
          refine wpAnyH_take (i := 13) (oi := _) (v := ?vtr13) rfl (by kernel_rfl) (by kernel_rfl) (by kernel_rfl) (fun _ _ _ h => h) (Or.inl ⟨by rfl, ?hyr13⟩) (by assumption) ?_
          case hyr13 => (intro wh hSw; (try dsimp only at hSw); go_simp; try with_reducible rfl)
          simp only [Act.put]
          refine wpAnyH_take (i := 14) (oi := _) (v := ?vtr14) rfl (by kernel_rfl) (by kernel_rfl) (by kernel_rfl) (fun _ _ _ h => h) (Or.inl ⟨by rfl, ?hyr14⟩) (by assumption) ?_
          case hyr14 => (intro wh hSw; (try dsimp only at hSw); go_simp; try with_reducible rfl)
          simp only [Act.put]
          refine wpAnyH_take (i := 16) (oi := _) (v := ?vtr16) rfl (by kernel_rfl) (by kernel_rfl) (by kernel_rfl) (fun _ _ _ h => h) (Or.inl ⟨by rfl, ?hyr16⟩) (by assumption) ?_
          case hyr16 => (intro wh hSw; (try dsimp only at hSw); go_simp; try with_reducible rfl)
          simp only [Act.put]
          refine wpAnyH_ready (rs := [15]) (by kernel_rfl) (by simp) ?_
          refine AllReadyH.cons (o := _) rfl (fun K hK => ?_) AllReadyH.nil
          go_simp
          refine hK.out _ _ ?sar (fun hHeld => ?_)
          case sar => exact ⟨t0, hup1, p0, p1⟩
          clear hK K
          try simp only [Act.put]
          refine wpAnyH_ready (rs := [17]) (by kernel_rfl) (by simp) ?_
          refine AllReadyH.cons (o := _) rfl (fun K hK => ?_) AllReadyH.nil
          go_simp
          go_at_call 92
          ((with_reducible refine (HADD.out _).mono ?_); rintro e w9 ⟨rfl, hb9⟩)
          dsimp only
          have gW : Below wr.heap.size wr w9 := gZ.trans ((gtr (gdrew (a := Y)) hb9).mono (by have := gZ.size; omega))
          have n7q : Blk w9 w4.heap.size 44 #[.int .i64 v1, .int .i64 v2] := hb7.below (gtr (gdrew (a := Y)) hb9) hzY
          have ho9 := ownsRow_below HO.out gW (fun g hg => (HO.out.lt g hg).2)
          have hdd := HC.out _ ho9
          have d0q := hdd.2.2.1
          have d1q := hdd.2.2.2
          have s0q : w9.frozen? ⟨R, U * 2, none⟩ = false := ho9.frozenAt _
          have s1q : w9.frozen? ⟨R, U * 2 + 1, none⟩ = false := ho9.frozenAt _
          clear hdd
          refine hK.out _ _ ?sbr (fun hHeld2 => ?_)
          case sbr => exact ⟨(E0.out.below gW E0.out.lt).cell 0, (gW.cell (p := ⟨bb, o + j, none⟩) (by show bb < _; have := hb.size; omega)).trans hup, n7q.cell 0, n7q.cell 1⟩
          clear hK K hHeld
          refine wpAnyH_take (i := 18) (oi := _) (v := ?vtr18) rfl (by kernel_rfl) (by kernel_rfl) (by kernel_rfl) (fun _ _ _ h => h) (Or.inl ⟨by rfl, ?hyr18⟩) (by assumption) ?_
          case hyr18 => (intro wh hSw; (try dsimp only at hSw); go_simp; try with_reducible rfl)
          simp only [Act.put]
          refine wpAnyH_take (i := 19) (oi := _) (v := ?vtr19) rfl (by kernel_rfl) (by kernel_rfl) (by kernel_rfl) (fun _ _ _ h => h) (Or.inl ⟨by rfl, ?hyr19⟩) (by assumption) ?_
          case hyr19 => (intro wh hSw; (try dsimp only at hSw); go_simp; try with_reducible rfl)
          simp only [Act.put]
          refine wpAnyH_take (i := 20) (oi := _) (v := ?vtr20) rfl (by kernel_rfl) (by kernel_rfl) (by kernel_rfl) (fun _ _ _ h => h) (Or.inl ⟨by rfl, ?hyr20⟩) (by assumption) ?_
          case hyr20 => (intro wh hSw; (try dsimp only at hSw); go_simp; try with_reducible rfl)
          simp only [Act.put]
          refine wpAnyH_take (i := 21) (oi := _) (v := ?vtr21) rfl (by kernel_rfl) (by kernel_rfl) (by kernel_rfl) (fun _ _ _ h => h) (Or.inl ⟨by rfl, ?hyr21⟩) (by assumption) ?_
          case hyr21 => (intro wh hSw; (try dsimp only at hSw); go_simp; try with_reducible rfl)
          simp only [Act.put]
          refine wpAnyH_ready (rs := [22]) (by kernel_rfl) (by simp) ?_
          refine AllReadyH.cons (o := _) rfl (fun K hK => ?_) AllReadyH.nil
          have hH2 := hHeld2
          obtain ⟨hh0, hh1, hh2, hh3⟩ := hH2
          go_simp
          refine hK.out _ _ ?scr (fun hHeld => ?_)
          case scr => go_keep
          clear hK K hHeld2 hh0 hh1 hh2 hh3
          try simp only [Act.put]
          refine wpAnyH_take (i := 23) (oi := _) (v := ?vtr23) rfl (by kernel_rfl) (by kernel_rfl) (by kernel_rfl) (fun _ _ _ h => h) (Or.inl ⟨by rfl, ?hyr23⟩) (by assumption) ?_
          case hyr23 => (intro wh hSw; (try dsimp only at hSw); go_simp; try with_reducible rfl)
          simp only [Act.put]
          refine wpAnyH_done (by kernel_rfl) ?_ _
          refine NoPanic.normal ?_
          all_goals
            have hs9 := ((ho9.stored (U * 2) (.int .i64 z1)).1.stored (U * 2 + 1) (.int .i64 z2)).1
            rw [HNEW.out] at hs9
            have HS9 := Lib.hid hs9
            have hz9 := gW.size
            clear hs9 ho9
            go_wp2
            go_roundw
            case rel =>
              refine ⟨m + 1, by omega, ?_, ((hb.trans (gW.mono hb.size)).setCell (by dsimp only; omega) _).setCell (by dsimp only; omega) _, ((E0.out.below gW E0.out.lt).far (by dsimp only; omega) _).far (by dsimp only; omega) _, ((E1.out.below gW E1.out.lt).far (by dsimp only; omega) _).far (by dsimp only; omega) _, HS9.out, by simp; omega⟩
              by_cases h0 : j = 0
              · left; exact ⟨by omega, by rw [h0]; go_num⟩
              · right; exact ⟨j - 1, by omega, by go_num⟩
            case measure => first | (simp [intOf]; done) | (simp [intOf]; omega)
        · rw [hl] at hat hv
          have hv' : nf (on (T m (j + 1))) = (v1, v2) := hv
          have HEV : Hid (∀ V, Calls Tryd.prog 91 #[.agg #[.int .i64 x1, .int .i64 x2]] V fun e w' => e = .returned (.tuple #[.agg #[.int .i64 v1, .int .i64 v2], .bool true]) ∧ Below V.heap.size V w') := fun V => by
            have h := edgeValue_any (T m (j + 1)) 7 hf1 (by decide) V
            rw [dyP_eq hx, dyP_eq hv'] at h
            exact h
          clear hv'
          clear hv hx hf1 hf2 hl
          have hA1 : ∀ o', (wr.alloc o').cell? ⟨w.heap.size, 1, none⟩ = some (.string s) := fun o' => (E0.out.alloc o').cell 1
          go_wp2_with fail
          have k2 := Blk.new wr 44 #[.int .i64 x1, .int .i64 x2]
          have gB := bel1 wr (.cells #[.int .i64 x1, .int .i64 x2] 44)
          have hzV : wr.heap.size < (wr.alloc (.cells #[.int .i64 x1, .int .i64 x2] 44)).heap.size := by simp
          clear hA1 c0 c1
          generalize wr.alloc (.cells #[.int .i64 x1, .int .i64 x2] 44) = V at *
          ((with_reducible refine (HEV.out _).mono ?_); rintro e w4 ⟨rfl, hb4⟩)
          have gB6 := gB.trans (hb4.mono (by omega))
          clear hb4 gB k2
          have m7 := Blk.new w4 44 #[.int .i64 (v1), .int .i64 v2]
          have gB4 : Below wr.heap.size wr (w4.alloc (.cells #[.int .i64 (v1), .int .i64 v2] 44)) := gB6.alloc gB6.size _
          have hzW4 : wr.heap.size ≤ w4.heap.size := gB6.size
          have hA4 : ∀ o', (w4.alloc o').cell? ⟨w.heap.size, 1, none⟩ = some (.string s) := fun o' => ((E0.out.below gB6 E0.out.lt).alloc o').cell 1
          go_wp2_with fail
          have gZ : Below wr.heap.size wr (w4.alloc (.cells #[.int .i64 v1, .int .i64 v2] 44)) := gB4
          have hb7 : Blk (w4.alloc (.cells #[.int .i64 v1, .int .i64 v2] 44)) w4.heap.size 44 #[.int .i64 v1, .int .i64 v2] := m7
          have hzY := hb7.lt
          clear gB4 m7 hA4
          generalize (w4.alloc (.cells #[.int .i64 v1, .int .i64 v2] 44)) = Y at *
          have t0 : Y.cell? ⟨w.heap.size, 0, none⟩ = some (.slice (some ⟨bb, o, none⟩) xs.length c) := (E0.out.below gZ E0.out.lt).cell 0
          have hup1 : Y.cell? ⟨bb, o + j, none⟩ = some (.int .i64 (gi xs j)) := (gZ.cell (p := ⟨bb, o + j, none⟩) (by show bb < _; have := hb.size; omega)).trans hup
          obtain ⟨-, -, d0, d1⟩ := HC.out _ (ownsRow_below HO.out gZ (fun g hg => (HO.out.lt g hg).2))
          have p0 : Y.cell? ⟨w4.heap.size, 0, none⟩ = some (.int .i64 v1) := hb7.cell 0
          have p1 : Y.cell? ⟨w4.heap.size, 1, none⟩ = some (.int .i64 v2) := hb7.cell 1
          have hUlt : (U : Int) < (xs.length : Int) + 1 := by omega
          have hU0 : (0 : Int) ≤ (U : Int) := by omega
          go_wp2
          have hYs : wr.heap.size ≤ Y.heap.size := gZ.size
          have hw0 : w.heap.size < Y.heap.size := by omega
          have hbbY : bb < Y.heap.size := by have := hb.size; omega
          have hRY : R < Y.heap.size := by omega
          have hnR1 : ¬ R = w.heap.size := by omega
          have hnR2 : ¬ w.heap.size = R := by omega
          have hnR3 : ¬ R = bb := by omega
          have hnR4 : ¬ bb = R := by omega
          have hnR5 : ¬ R = w4.heap.size := by omega
          have hnR6 : ¬ w4.heap.size = R := by omega
          refine wp_region_noPanic ?_
          refine wp_region_held_drew (S := fun wq => wq.cell? ⟨w.heap.size, 0, none⟩ = some (.slice (some ⟨bb, o, none⟩) xs.length c) ∧ wq.cell? ⟨bb, o + j, none⟩ = some (.int .i64 (gi xs j)) ∧ wq.cell? ⟨w4.heap.size, 0, none⟩ = some (.int .i64 v1) ∧ wq.cell? ⟨w4.heap.size, 1, none⟩ = some (.int .i64 v2)) (by kernel_rfl) ⟨t0, hup1, p0, p1⟩ (fun hHeld => ?_)
          refine wpAnyH_take (i := 0) (oi := _) (v := ?vtl0) rfl (by kernel_rfl) (by kernel_rfl) (by kernel_rfl) (fun _ _ _ h => h) (Or.inl ⟨by rfl, ?hyl0⟩) (by assumption) ?_
          case hyl0 => (intro wh hSw; (try dsimp only at hSw); go_simp; try with_reducible rfl)
          simp only [Act.put]
          refine wpAnyH_take (i := 1) (oi := _) (v := ?vtl1) rfl (by kernel_rfl) (by kernel_rfl) (by kernel_rfl) (fun _ _ _ h => h) (Or.inl ⟨by rfl, ?hyl1⟩) (by assumption) ?_
          case hyl1 => (intro wh hSw; (try dsimp only at hSw); go_simp; try with_reducible rfl)
          simp only [Act.put]
          refine wpAnyH_take (i := 2) (oi := _) (v := ?vtl2) rfl (by kernel_rfl) (by kernel_rfl) (by kernel_rfl) (fun _ _ _ h => h) (Or.inl ⟨by rfl, ?hyl2⟩) (by assumption) ?_
          case hyl2 => (intro wh hSw; (try dsimp only at hSw); go_simp; try with_reducible rfl)
          simp only [Act.put]
          refine wpAnyH_take (i := 3) (oi := _) (v := ?vtl3) rfl (by kernel_rfl) (by kernel_rfl) (by kernel_rfl) (fun _ _ _ h => h) (Or.inl ⟨by rfl, ?hyl3⟩) (by assumption) ?_
          case hyl3 => (intro wh hSw; (try dsimp only at hSw); go_simp; try with_reducible rfl)
          simp only [Act.put]
          refine wpAnyH_take (i := 4) (oi := _) (v := ?vtl4) rfl (by kernel_rfl) (by kernel_rfl) (by kernel_rfl) (fun _ _ _ h => h) (Or.inl ⟨by rfl, ?hyl4⟩) (by assumption) ?_
          case hyl4 => (intro wh hSw; (try dsimp only at hSw); go_simp; try with_reducible rfl)
          simp only [Act.put]
          refine wpAnyH_take (i := 5) (oi := _) (v := ?vtl5) rfl (by kernel_rfl) (by kernel_rfl) (by kernel_rfl) (fun _ _ _ h => h) (Or.inl ⟨by rfl, ?hyl5⟩) (by assumption) ?_
          case hyl5 => (intro wh hSw; (try dsimp only at hSw); go_simp; try with_reducible rfl)
          simp only [Act.put]
          refine wpAnyH_take (i := 6) (oi := _) (v := ?vtl6) rfl (by kernel_rfl) (by kernel_rfl) (by kernel_rfl) (fun _ _ _ h => h) (Or.inl ⟨by rfl, ?hyl6⟩) (by assumption) ?_
          case hyl6 => (intro wh hSw; (try dsimp only at hSw); go_simp; try with_reducible rfl)
          simp only [Act.put]
          refine wpAnyH_take (i := 7) (oi := _) (v := ?vtl7) rfl (by kernel_rfl) (by kernel_rfl) (by kernel_rfl) (fun _ _ _ h => h) (Or.inl ⟨by rfl, ?hyl7⟩) (by assumption) ?_
          case hyl7 => (intro wh hSw; (try dsimp only at hSw); go_simp; try with_reducible rfl)
          simp only [Act.put]
          refine wpAnyH_take (i := 8) (oi := _) (v := ?vtl8) rfl (by kernel_rfl) (by kernel_rfl) (by kernel_rfl) (fun _ _ _ h => h) (Or.inl ⟨by rfl, ?hyl8⟩) (by assumption) ?_
          case hyl8 => (intro wh hSw; (try dsimp only at hSw); go_simp; try with_reducible rfl)
          simp only [Act.put]
          refine wpAnyH_take (i := 9) (oi := _) (v := ?vtl9) rfl (by kernel_rfl) (by kernel_rfl) (by kernel_rfl) (fun _ _ _ h => h) (Or.inl ⟨by rfl, ?hyl9⟩) (by assumption) ?_
          case hyl9 => (intro wh hSw; (try dsimp only at hSw); go_simp; try with_reducible rfl)
          simp only [Act.put]
          refine wpAnyH_take (i := 10) (oi := _) (v := ?vtl10) rfl (by kernel_rfl) (by kernel_rfl) (by kernel_rfl) (fun _ _ _ h => h) (Or.inl ⟨by rfl, ?hyl10⟩) (by assumption) ?_
          case hyl10 => (intro wh hSw; (try dsimp only at hSw); go_simp; try with_reducible rfl)
          simp only [Act.put]
          refine wpAnyH_take (i := 11) (oi := _) (v := ?vtl11) rfl (by kernel_rfl) (by kernel_rfl) (by kernel_rfl) (fun _ _ _ h => h) (Or.inl ⟨by rfl, ?hyl11⟩) (by assumption) ?_
          case hyl11 => (intro wh hSw; (try dsimp only at hSw); go_simp; try with_reducible rfl)
          simp only [Act.put]
          refine wpAnyH_take (i := 12) (oi := _) (v := ?vtl12) rfl (by kernel_rfl) (by kernel_rfl) (by kernel_rfl) (fun _ _ _ h => h) (Or.inl ⟨by rfl, ?hyl12⟩) (by assumption) ?_
          case hyl12 => (intro wh hSw; (try dsimp only at hSw); go_simp; try with_reducible rfl)
          simp only [Act.put]
          refine wpAnyH_take (i := 13) (oi := _) (v := ?vtl13) rfl (by kernel_rfl) (by kernel_rfl) (by kernel_rfl) (fun _ _ _ h => h) (Or.inl ⟨by rfl, ?hyl13⟩) (by assumption) ?_
          case hyl13 => (intro wh hSw; (try dsimp only at hSw); go_simp; try with_reducible rfl)
          simp only [Act.put]
          refine wpAnyH_take (i := 14) (oi := _) (v := ?vtl14) rfl (by kernel_rfl) (by kernel_rfl) (by kernel_rfl) (fun _ _ _ h => h) (Or.inl ⟨by rfl, ?hyl14⟩) (by assumption) ?_
          case hyl14 => (intro wh hSw; (try dsimp only at hSw); go_simp; try with_reducible rfl)
          simp only [Act.put]
          refine wpAnyH_take (i := 16) (oi := _) (v := ?vtl16) rfl (by kernel_rfl) (by kernel_rfl) (by kernel_rfl) (fun _ _ _ h => h) (Or.inl ⟨by rfl, ?hyl16⟩) (by assumption) ?_
          case hyl16 => (intro wh hSw; (try dsimp only at hSw); go_simp; try with_reducible rfl)
          simp only [Act.put]
          refine wpAnyH_ready (rs := [15]) (by kernel_rfl) (by simp) ?_
          refine AllReadyH.cons (o := _) rfl (fun K hK => ?_) AllReadyH.nil
          go_simp
          refine hK.out _ _ ?sal (fun hHeld => ?_)
          case sal => exact ⟨t0, hup1, p0, p1⟩
          clear hK K
          try simp only [Act.put]
          refine wpAnyH_ready (rs := [17]) (by kernel_rfl) (by simp) ?_
          refine AllReadyH.cons (o := _) rfl (fun K hK => ?_) AllReadyH.nil
          go_simp
          go_at_call 92
          ((with_reducible refine (HADD.out _).mono ?_); rintro e w9 ⟨rfl, hb9⟩)
          dsimp only
          have gW : Below wr.heap.size wr w9 := gZ.trans ((gtr (gdrew (a := Y)) hb9).mono (by have := gZ.size; omega))
          have n7q : Blk w9 w4.heap.size 44 #[.int .i64 v1, .int .i64 v2] := hb7.below (gtr (gdrew (a := Y)) hb9) hzY
          have ho9 := ownsRow_below HO.out gW (fun g hg => (HO.out.lt g hg).2)
          have hdd := HC.out _ ho9
          have d0q := hdd.2.2.1
          have d1q := hdd.2.2.2
          have s0q : w9.frozen? ⟨R, U * 2, none⟩ = false := ho9.frozenAt _
          have s1q : w9.frozen? ⟨R, U * 2 + 1, none⟩ = false := ho9.frozenAt _
          clear hdd
          refine hK.out _ _ ?sbl (fun hHeld2 => ?_)
          case sbl => exact ⟨(E0.out.below gW E0.out.lt).cell 0, (gW.cell (p := ⟨bb, o + j, none⟩) (by show bb < _; have := hb.size; omega)).trans hup, n7q.cell 0, n7q.cell 1⟩
          clear hK K hHeld
          refine wpAnyH_take (i := 18) (oi := _) (v := ?vtl18) rfl (by kernel_rfl) (by kernel_rfl) (by kernel_rfl) (fun _ _ _ h => h) (Or.inl ⟨by rfl, ?hyl18⟩) (by assumption) ?_
          case hyl18 => (intro wh hSw; (try dsimp only at hSw); go_simp; try with_reducible rfl)
          simp only [Act.put]
          refine wpAnyH_take (i := 19) (oi := _) (v := ?vtl19) rfl (by kernel_rfl) (by kernel_rfl) (by kernel_rfl) (fun _ _ _ h => h) (Or.inl ⟨by rfl, ?hyl19⟩) (by assumption) ?_
          case hyl19 => (intro wh hSw; (try dsimp only at hSw); go_simp; try with_reducible rfl)
          simp only [Act.put]
          refine wpAnyH_take (i := 20) (oi := _) (v := ?vtl20) rfl (by kernel_rfl) (by kernel_rfl) (by kernel_rfl) (fun _ _ _ h => h) (Or.inl ⟨by rfl, ?hyl20⟩) (by assumption) ?_
          case hyl20 => (intro wh hSw; (try dsimp only at hSw); go_simp; try with_reducible rfl)
          simp only [Act.put]
          refine wpAnyH_take (i := 21) (oi := _) (v := ?vtl21) rfl (by kernel_rfl) (by kernel_rfl) (by kernel_rfl) (fun _ _ _ h => h) (Or.inl ⟨by rfl, ?hyl21⟩) (by assumption) ?_
          case hyl21 => (intro wh hSw; (try dsimp only at hSw); go_simp; try with_reducible rfl)
          simp only [Act.put]
          refine wpAnyH_ready (rs := [22]) (by kernel_rfl) (by simp) ?_
          refine AllReadyH.cons (o := _) rfl (fun K hK => ?_) AllReadyH.nil
          have hH2 := hHeld2
          obtain ⟨hh0, hh1, hh2, hh3⟩ := hH2
          go_simp
          refine hK.out _ _ ?scl (fun hHeld => ?_)
          case scl => go_keep
          clear hK K hHeld2 hh0 hh1 hh2 hh3
          try simp only [Act.put]
          refine wpAnyH_take (i := 23) (oi := _) (v := ?vtl23) rfl (by kernel_rfl) (by kernel_rfl) (by kernel_rfl) (fun _ _ _ h => h) (Or.inl ⟨by rfl, ?hyl23⟩) (by assumption) ?_
          case hyl23 => (intro wh hSw; (try dsimp only at hSw); go_simp; try with_reducible rfl)
          simp only [Act.put]
          refine wpAnyH_done (by kernel_rfl) ?_ _
          refine NoPanic.normal ?_
          all_goals
            have hs9 := ((ho9.stored (U * 2) (.int .i64 z1)).1.stored (U * 2 + 1) (.int .i64 z2)).1
            rw [HNEW.out] at hs9
            have HS9 := Lib.hid hs9
            have hz9 := gW.size
            clear hs9 ho9
            go_wp2
            go_roundw
            case rel =>
              refine ⟨m + 1, by omega, ?_, ((hb.trans (gW.mono hb.size)).setCell (by dsimp only; omega) _).setCell (by dsimp only; omega) _, ((E0.out.below gW E0.out.lt).far (by dsimp only; omega) _).far (by dsimp only; omega) _, ((E1.out.below gW E1.out.lt).far (by dsimp only; omega) _).far (by dsimp only; omega) _, HS9.out, by simp; omega⟩
              by_cases h0 : j = 0
              · left; exact ⟨by omega, by rw [h0]; go_num⟩
              · right; exact ⟨j - 1, by omega, by go_num⟩
            case measure => first | (simp [intOf]; done) | (simp [intOf]; omega)
end Go.Proofs.YtidfbbegjpfjpaaDoor
