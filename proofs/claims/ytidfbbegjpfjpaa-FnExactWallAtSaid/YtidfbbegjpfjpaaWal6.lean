/- The value of a wall by the program. Conditions: none. -/
import Derived.Test.YtidfbbegjpfjpaaWal5
import Derived.Test.YtidfbbegjpfjpaaWal3
namespace Go.Proofs.Ytidfbbegjpfjpaa
open Go.RowKit
set_option linter.unusedVariables false

/-- The slope behind spot k. -/
def slB (xs : List Pt) (k : Nat) : Int := if k + 1 = xs.length then 0 else slk xs k
theorem slB_out {xs : List Pt} (h : GoodW xs) (k : Nat) (hk : k < xs.length) : -1 ≤ slB xs k ∧ slB xs k ≤ 1 := by
  unfold slB
  split
  · omega
  · have h1 := (h.2.2.2.2.2 k (by omega)).1
    have h2 := slp_out (pa (gp xs (k + 1)) - pa (gp xs k)) (pv (gp xs (k + 1)) - pv (gp xs k))
    unfold slk at h1 ⊢
    omega

set_option maxRecDepth 100000 in
set_option maxHeartbeats 1600000 in
theorem slope_any (A : Option Addr) (c : Nat) (xs : List Pt) (k : Nat) (w : World) (B : Nat) (hB : B ≤ w.heap.size) (h : RdS w B A c xs) (hw : GoodW xs) (hk : k < xs.length) :
    Calls Try.prog 48 #[.agg #[.slice A xs.length c, .int .i64 0], .int .i64 k] w fun e w' => e = .returned (.int .i64 (slB xs k)) ∧ Below w.heap.size w w' := by
  have h1 := h.1
  have h2 : c ≤ 9223372036854775807 := by have := h.2.1; unfold maxLen at this; exact this
  obtain ⟨b, o, rfl, hbB, hc⟩ := h.2.2 k hk
  by_cases hl : k + 1 = xs.length
  · have HR : Hid (slB xs k = 0) := by show slB xs k = 0; unfold slB; rw [if_pos hl]
    have hli : (k : Int) + 1 = (xs.length : Int) := by omega
    go_enter Try.func48, Try.ntmps48
    go_wp2
    go_ret
    exact ⟨ret_i64 HR.out.symm, (Below.refl _ _).alloc (Nat.le_refl _) _⟩
  · have hn := hw.2.1
    have hgX := hw.2.2.2.1 k hk
    have hgY := hw.2.2.2.1 (k + 1) (by omega)
    have hrise := hw.2.2.2.2.1 k (by omega)
    have hsl := (hw.2.2.2.2.2 k (by omega)).1
    rw [pa_a20 hgX, pa_a20 hgY] at hrise
    have hD := slk_20 hgX hgY
    have hSB : slB xs k = slk xs k := by unfold slB; rw [if_neg hl]
    have hdv := slp_div (S := a20 (gp xs (k + 1)) - a20 (gp xs k)) (V := v20 (gp xs (k + 1)) - v20 (gp xs k)) (by omega) (by rw [← hD]; exact hsl)
    rw [← hD, ← hSB] at hdv
    have hb := slB_out hw k hk
    have f1 := a20_fits hgX; have f2 := a20_fits hgY; have f3 := v20_fits hgX; have f4 := v20_fits hgY
    obtain ⟨k0, k1⟩ := hc k hk
    obtain ⟨l0, l1⟩ := hc (k + 1) (by omega)
    generalize slB xs k = D at *
    generalize a20 (gp xs k) = aX at *
    generalize a20 (gp xs (k + 1)) = aY at *
    generalize v20 (gp xs k) = vX at *
    generalize v20 (gp xs (k + 1)) = vY at *
    have hpos : 0 < aY - aX := by omega
    have hlt : (k : Int) + 1 < (xs.length : Int) := by omega
    have hlne : ¬ (k : Int) + 1 = (xs.length : Int) := by omega
    have HDV : Hid ((vY - vX).tdiv (aY - aX) = D) := hdv
    clear hc h hw hgX hgY hrise hsl hD hSB hl
    go_enter Try.func48, Try.ntmps48
    go_wp2
    have hAW := bel1 w (.cells #[.slice (some ⟨b, o, none⟩) xs.length c, .int .i64 0] 60)
    have hL := Blk.new w 60 #[.slice (some ⟨b, o, none⟩) xs.length c, .int .i64 0]
    have hbw : b < w.heap.size := by omega
    have k0' := (hAW.cell (p := ⟨b, o + k * 2, none⟩) hbw).trans k0
    have k1' := (hAW.cell (p := ⟨b, o + k * 2 + 1, none⟩) hbw).trans k1
    have l0' := (hAW.cell (p := ⟨b, o + (k + 1) * 2, none⟩) hbw).trans l0
    have l1' := (hAW.cell (p := ⟨b, o + (k + 1) * 2 + 1, none⟩) hbw).trans l1
    have hzW : w.heap.size < (w.alloc (.cells #[.slice (some ⟨b, o, none⟩) xs.length c, .int .i64 0] 60)).heap.size := by simp
    clear k0 k1 l0 l1
    generalize w.alloc (.cells #[.slice (some ⟨b, o, none⟩) xs.length c, .int .i64 0] 60) = W at *
    have x0 : W.cell? ⟨w.heap.size, 0, none⟩ = some (.slice (some ⟨b, o, none⟩) xs.length c) := hL.cell 0
    obtain ⟨LB, hLB⟩ : ∃ LB, LB = w.heap.size := ⟨_, rfl⟩
    rw [← hLB] at x0 hzW hL ⊢
    have hbLB : b < W.heap.size := by omega
    clear hLB hL
    go_region
    all_goals
      have hw1 : IntKind.i64.wrap (vY - vX) = vY - vX := by rw [IntKind.wrap_i64]; omega
      have hw2 : IntKind.i64.wrap (aY - aX) = aY - aX := by rw [IntKind.wrap_i64]; omega
      have hne : ¬ aY - aX = 0 := by omega
      go_wp2
      go_ret
      refine ⟨rfl, ?_⟩
      refine Below.drew ?_
      refine Below.alloc ?_ (by have := hAW.size; simp; omega) _
      exact Below.alloc hAW (by have := hAW.size; omega) _

/-- Spot k is the one for place T. -/
def IsK (xs : List Pt) (T : Int) (k : Nat) : Prop := k < xs.length ∧ (k = 0 ∨ a20 (gp xs k) ≤ T) ∧ (k + 1 = xs.length ∨ T < a20 (gp xs (k + 1)))
def valK (xs : List Pt) (T : Int) (k : Nat) : Int := v20 (gp xs k) + slB xs k * (T - a20 (gp xs k))
theorem tri {D Y : Int} (h : -1 ≤ D ∧ D ≤ 1) : D * Y = 0 ∧ D = 0 ∨ D * Y = Y ∧ D = 1 ∨ D * Y = -Y ∧ D = -1 := by
  have : D = 0 ∨ D = 1 ∨ D = -1 := by omega
  rcases this with rfl | rfl | rfl
  · exact .inl ⟨by simp, rfl⟩
  · exact .inr (.inl ⟨by simp, rfl⟩)
  · exact .inr (.inr ⟨by simp, rfl⟩)
theorem valK_fits {xs : List Pt} (h : GoodW xs) {T : Int} (hT : 0 ≤ T ∧ T ≤ 1048576000000) {k : Nat} (hk : k < xs.length) : -4000000000000 ≤ slB xs k * (T - a20 (gp xs k)) ∧ slB xs k * (T - a20 (gp xs k)) ≤ 4000000000000 ∧ -6000000000000 ≤ valK xs T k ∧ valK xs T k ≤ 6000000000000 := by
  have h1 := slB_out h k hk
  have hg := h.2.2.2.1 k hk
  have f1 := a20_fits hg
  have f3 := v20_fits hg
  unfold valK
  rcases tri (Y := T - a20 (gp xs k)) h1 with ⟨e, _⟩ | ⟨e, _⟩ | ⟨e, _⟩ <;> rw [e] <;> omega

set_option maxRecDepth 100000 in
set_option maxHeartbeats 1600000 in
theorem value_any (A : Option Addr) (c : Nat) (xs : List Pt) (T : Int) (w : World) (B : Nat) (hB : B ≤ w.heap.size) (h : RdS w B A c xs) (hw : GoodW xs) (hT : 0 ≤ T ∧ T ≤ 1048576000000) :
    Calls Try.prog 28 #[.agg #[.slice A xs.length c, .int .i64 0], .int .i64 T] w fun e w' => ∃ k, IsK xs T k ∧ e = .returned (.int .i64 (valK xs T k)) ∧ Below w.heap.size w w' := by
  have h1 := h.1
  have h2 : c ≤ 9223372036854775807 := by have := h.2.1; unfold maxLen at this; exact this
  have hn := hw.2.1
  obtain ⟨b, o, rfl, hbB, hc⟩ := h.2.2 0 hw.1
  have HSL : Hid (∀ k, k < xs.length → ∀ W, w.heap.size ≤ W.heap.size → RdS W B (some ⟨b, o, none⟩) c xs → Calls Try.prog 48 #[.agg #[.slice (some ⟨b, o, none⟩) xs.length c, .int .i64 0], .int .i64 k] W fun e w' => e = .returned (.int .i64 (slB xs k)) ∧ Below W.heap.size W w') :=
    fun k hk W hz hh => slope_any _ _ _ _ _ _ (by omega) hh hw hk
  have HV := Lib.hid (fun k (hk : k < xs.length) => valK_fits hw hT hk)
  have HF := Lib.hid (fun k (hk : k < xs.length) => And.intro (a20_fits (hw.2.2.2.1 k hk)) (v20_fits (hw.2.2.2.1 k hk)))
  have hw1 := hw.1
  clear hw
  go_enter Try.func28, Try.ntmps28
  go_wp2_with fail
  have hAW := bel1 w (.cells #[.slice (some ⟨b, o, none⟩) xs.length c, .int .i64 0] 60)
  have hL := Blk.new w 60 #[.slice (some ⟨b, o, none⟩) xs.length c, .int .i64 0]
  have hbw : b < w.heap.size := by omega
  have hzW : w.heap.size < (w.alloc (.cells #[.slice (some ⟨b, o, none⟩) xs.length c, .int .i64 0] 60)).heap.size := by simp
  generalize w.alloc (.cells #[.slice (some ⟨b, o, none⟩) xs.length c, .int .i64 0] 60) = W at *
  have x0 : W.cell? ⟨w.heap.size, 0, none⟩ = some (.slice (some ⟨b, o, none⟩) xs.length c) := hL.cell 0
  have x1 : W.cell? ⟨w.heap.size, 1, none⟩ = some (.int .i64 0) := hL.cell 1
  have hRW := h.below hAW hB
  have HC : Hid (∀ i, i < xs.length → W.cell? ⟨b, o + i * 2, none⟩ = some (.int .i64 (a20 (gp xs i))) ∧ W.cell? ⟨b, o + i * 2 + 1, none⟩ = some (.int .i64 (v20 (gp xs i)))) := fun i hi =>
    ⟨(hAW.cell (p := ⟨b, _, none⟩) hbw).trans (hc i hi).1, (hAW.cell (p := ⟨b, _, none⟩) hbw).trans (hc i hi).2⟩
  have HR := Lib.hid hRW
  obtain ⟨LB, hLB⟩ : ∃ LB, LB = w.heap.size := ⟨_, rfl⟩
  rw [← hLB] at x0 x1 hzW hL ⊢
  have hLw : w.heap.size ≤ LB := by omega
  clear h hc hL hLB hRW
  go_loop [5] (fun i => ∃ k : Nat, i = .int .i64 k ∧ k < xs.length ∧ (k = 0 ∨ a20 (gp xs k) ≤ T)) (fun i => xs.length - (intOf i).toNat)
  case atStart => exact ⟨0, rfl, by omega, .inl rfl⟩
  case round =>
    obtain ⟨k, rfl, hk, hs⟩ := hrel
    have HK := Lib.hid hs; clear hs
    by_cases hlt : k + 1 < xs.length
    · obtain ⟨l0, l1⟩ := HC.out (k + 1) hlt
      obtain ⟨aY, haY⟩ : ∃ aY, aY = a20 (gp xs (k + 1)) := ⟨_, rfl⟩
      rw [← haY] at l0
      have HY := Lib.hid haY; clear haY l1
      by_cases hle : aY ≤ T
      · go_wp2
        go_round
        case rel => exact ⟨k + 1, by go_num, hlt, .inr (by rw [← HY.out]; exact hle)⟩
        case measure => simp [intOf]; omega
      · have HI : Hid (IsK xs T k) := ⟨hk, HK.out, .inr (by rw [← HY.out]; omega)⟩
        obtain ⟨k0, k1⟩ := HC.out k hk
        have hv := HV.out k hk
        have hf := HF.out k hk
        have hSL := fun W hz hh => HSL.out k hk W hz hh
        have HVAL : Hid (valK xs T k = v20 (gp xs k) + slB xs k * (T - a20 (gp xs k))) := rfl
        generalize v20 (gp xs k) = vX at *
        generalize a20 (gp xs k) = aX at *
        generalize slB xs k = D at *
        obtain ⟨M, hM⟩ : ∃ M, M = D * (T - aX) := ⟨_, rfl⟩
        rw [← hM] at hv HVAL
        have hwa : IntKind.i64.wrap (T - aX) = T - aX := by rw [IntKind.wrap_i64]; omega
        have hwb : IntKind.i64.wrap (D * (T - aX)) = M := by rw [← hM, IntKind.wrap_i64]; omega
        have hwc : IntKind.i64.wrap (vX + M) = vX + M := by rw [IntKind.wrap_i64]; omega
        have hbW : b < W.heap.size := by omega
        have hx0 := fun x => (grow_cell (w := W) LB 0 hzW x).trans x0
        have hx1 := fun x => (grow_cell (w := W) LB 1 hzW x).trans x1
        have hk0 := fun x => (grow_cell (w := W) b (o + k * 2) hbW x).trans k0
        have hk1 := fun x => (grow_cell (w := W) b (o + k * 2 + 1) hbW x).trans k1
        have HRR : Hid (∀ x : Wd (Below W.heap.size W), w.heap.size ≤ (inst _ x).heap.size ∧ RdS (inst _ x) B (some ⟨b, o, none⟩) c xs) := fun x => ⟨Nat.le_trans hAW.size (grow_size x), HR.out.below (inst_inv x) (by have := hAW.size; omega)⟩
        have HSLL := Lib.hid hSL
        clear hM hSL hv hf k0 k1
        go_wp2
        refine wp_region_inv (Below W.heap.size W) (grow0 _) (by kernel_rfl) (by kernel_rfl) ?_
        repeat (go_big_quiet_step ((go_at_call 48; with_reducible exact grow_step (HSLL.out _ (HRR.out _).1 (HRR.out _).2))))
        refine wpQuiet_nil ?_
        intro w2 hw'
        have hb2 := grow_of hw'
        clear hw'
        go_wp2
        go_ret
        exact ⟨k, HI.out, ret_i64 HVAL.out.symm, hAW.trans (hb2.mono hAW.size)⟩
    · have HI : Hid (IsK xs T k) := ⟨hk, HK.out, .inl (by omega)⟩
      obtain ⟨k0, k1⟩ := HC.out k hk
      have hv := HV.out k hk
      have hf := HF.out k hk
      have hSL := fun W hz hh => HSL.out k hk W hz hh
      have HVAL : Hid (valK xs T k = v20 (gp xs k) + slB xs k * (T - a20 (gp xs k))) := rfl
      generalize v20 (gp xs k) = vX at *
      generalize a20 (gp xs k) = aX at *
      generalize slB xs k = D at *
      obtain ⟨M, hM⟩ : ∃ M, M = D * (T - aX) := ⟨_, rfl⟩
      rw [← hM] at hv HVAL
      have hwa : IntKind.i64.wrap (T - aX) = T - aX := by rw [IntKind.wrap_i64]; omega
      have hwb : IntKind.i64.wrap (D * (T - aX)) = M := by rw [← hM, IntKind.wrap_i64]; omega
      have hwc : IntKind.i64.wrap (vX + M) = vX + M := by rw [IntKind.wrap_i64]; omega
      have hbW : b < W.heap.size := by omega
      have hx0 := fun x => (grow_cell (w := W) LB 0 hzW x).trans x0
      have hx1 := fun x => (grow_cell (w := W) LB 1 hzW x).trans x1
      have hk0 := fun x => (grow_cell (w := W) b (o + k * 2) hbW x).trans k0
      have hk1 := fun x => (grow_cell (w := W) b (o + k * 2 + 1) hbW x).trans k1
      have HRR : Hid (∀ x : Wd (Below W.heap.size W), w.heap.size ≤ (inst _ x).heap.size ∧ RdS (inst _ x) B (some ⟨b, o, none⟩) c xs) := fun x => ⟨Nat.le_trans hAW.size (grow_size x), HR.out.below (inst_inv x) (by have := hAW.size; omega)⟩
      have HSLL := Lib.hid hSL
      clear hM hSL hv hf k0 k1
      go_wp2
      refine wp_region_inv (Below W.heap.size W) (grow0 _) (by kernel_rfl) (by kernel_rfl) ?_
      repeat (go_big_quiet_step ((go_at_call 48; with_reducible exact grow_step (HSLL.out _ (HRR.out _).1 (HRR.out _).2))))
      refine wpQuiet_nil ?_
      intro w2 hw'
      have hb2 := grow_of hw'
      clear hw'
      go_wp2
      go_ret
      exact ⟨k, HI.out, ret_i64 HVAL.out.symm, hAW.trans (hb2.mono hAW.size)⟩

theorem isK_unique {xs : List Pt} (h : GoodW xs) {T : Int} {k l : Nat} (hT : 0 ≤ T) (hk : IsK xs T k) (hl : IsK xs T l) : k = l := by
  have hr : ∀ i j, i < j → j < xs.length → a20 (gp xs i) < a20 (gp xs j) := by
    intro i j hij
    induction j with
    | zero => omega
    | succ j ih =>
      intro hj
      have h1 := h.2.2.2.2.1 j hj
      rw [pa_a20 (h.2.2.2.1 j (by omega)), pa_a20 (h.2.2.2.1 (j + 1) hj)] at h1
      by_cases e : i = j
      · rw [e]; omega
      · have := ih (by omega) (by omega)
        omega
  have key : ∀ a b : Nat, IsK xs T a → IsK xs T b → ¬ a < b := by
    intro a b ha hb hab
    have h1 : T < a20 (gp xs (a + 1)) := by
      rcases ha.2.2 with e | e
      · have := hb.1; omega
      · exact e
    have h2 : a20 (gp xs b) ≤ T := by
      rcases hb.2.1 with e | e
      · omega
      · exact e
    by_cases e : a + 1 = b
    · rw [e] at h1; omega
    · have := hr (a + 1) b (by omega) hb.1
      omega
  have h1 := key k l hk hl
  have h2 := key l k hl hk
  omega

/-- What WallAt hands back: nothing, or the number at the place. -/
def WallR (xs : List Pt) (t : Int) (p : Int) (v : Value) : Prop :=
  (¬ (GoodW xs ∧ goodDyB t p = true ∧ 0 ≤ t) ∧ v = .tuple #[.agg #[.int .i64 0, .int .i64 0], .bool false]) ∨
  ((GoodW xs ∧ goodDyB t p = true ∧ 0 ≤ t) ∧ ∃ k, IsK xs (sc20 t p.toNat) k ∧ v = lowV (nrm 20 (valK xs (sc20 t p.toNat) k)))
theorem wallR_unique {xs : List Pt} {t p : Int} {v u : Value} (h : WallR xs t p v) (k : WallR xs t p u) : v = u := by
  rcases h with ⟨h1, h2⟩ | ⟨h1, i, h2, h3⟩
  · rcases k with ⟨k1, k2⟩ | ⟨k1, _⟩
    · rw [h2, k2]
    · exact absurd k1 h1
  · rcases k with ⟨k1, k2⟩ | ⟨k1, j, k2, k3⟩
    · exact absurd h1 k1
    · have hT : 0 ≤ sc20 t p.toNat := by
        unfold sc20
        exact Int.mul_nonneg h1.2.2 (by have := pow_pos2 (20 - p.toNat); omega)
      rw [h3, k3, isK_unique h1.1 hT h2 k2]
end Go.Proofs.Ytidfbbegjpfjpaa
