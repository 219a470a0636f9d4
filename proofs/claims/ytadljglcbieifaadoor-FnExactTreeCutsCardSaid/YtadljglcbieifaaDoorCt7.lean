/- FnExactTreeCuts returns true for every tree and player. Conditions: none. -/
import Derived.Test.YtadljglcbieifaaDoorCt6
namespace Go.Proofs.YtadljglcbieifaaDoor
open Go.RowKit
set_option linter.unusedVariables false

theorem FrT.grown {w w' : World} {lo : Nat} {v : Value} {ts : List (List Int × ByteArray)} {row : Option Nat} (h : FrT w lo v ts) (hg : w.grownBy w' row) (hr : ∀ g, row = some g → g < lo) : FrT w' lo v ts := by
  obtain ⟨us, h1, h2, h3⟩ := h
  refine ⟨us, World.ownsRow.kept h1 hg ?_, h2.keep fun _ x _ _ k => k.grown hg ?_, h3⟩
  · by_cases hv : v.ownBlock = none
    · exact .inl hv
    · obtain ⟨g, hgv⟩ := Option.ne_none_iff_exists'.1 hv
      exact .inr fun e => by have := hr g (by rw [← e]; exact hgv); have := (h1.lt g hgv).1; omega
  · by_cases hv : x.ownBlock = none
    · exact .inl hv
    · obtain ⟨g, hgv⟩ := Option.ne_none_iff_exists'.1 hv
      exact .inr fun e => by have := hr g (by rw [← e]; exact hgv); have := (k.lt g hgv).1; omega
theorem RdI.grownUp {w w' : World} {B c : Nat} {A : Option Addr} {xs : List Int} {row : Option Nat} (h : RdI w B A c xs) (hg : w.grownBy w' row) (hB : B ≤ w.heap.size) (hr : ∀ g, row = some g → B ≤ g) : RdI w' B A c xs :=
  ⟨h.1, Rd.max h, h.2.2.1, fun j hj => by
    obtain ⟨b, o, hA, hb, hc⟩ := h.2.2.2 j hj
    refine ⟨b, o, hA, hb, fun i u hi => ?_⟩
    refine (World.cell?_of_block (w := w) (a := ⟨b, o + i, none⟩) (hg.block b (by omega) fun e => ?_)).trans (hc i u hi)
    have h2 := hr b e.symm
    omega⟩
theorem RdT.grownUp {w w' : World} {B c : Nat} {A : Option Addr} {ts : List (List Int × ByteArray)} {row : Option Nat} (h : RdT w B A c ts) (hg : w.grownBy w' row) (hB : B ≤ w.heap.size) (hr : ∀ g, row = some g → B ≤ g) : RdT w' B A c ts :=
  ⟨h.1, h.2.1, fun j hj => by
    obtain ⟨b, o, hA, hbB, hc⟩ := h.2.2 j hj
    refine ⟨b, o, hA, hbB, fun i hi => ?_⟩
    obtain ⟨Ai, ci, k1, k2, k3⟩ := hc i hi
    have hk : ∀ p, w'.cell? ⟨b, p, none⟩ = w.cell? ⟨b, p, none⟩ := fun p => World.cell?_of_block (w := w) (a := ⟨b, p, none⟩) (hg.block b (by omega) fun e => by have := hr b e.symm; omega)
    exact ⟨Ai, ci, (hk _).trans k1, (hk _).trans k2, k3.grownUp hg hB hr⟩⟩
theorem RdT.more {w : World} {B B' c : Nat} {A : Option Addr} {ts : List (List Int × ByteArray)} (h : RdT w B A c ts) (hB : B ≤ B') : RdT w B' A c ts :=
  ⟨h.1, h.2.1, fun j hj => by
    obtain ⟨b, o, hA, hbB, hc⟩ := h.2.2 j hj
    exact ⟨b, o, hA, by omega, fun i hi => by obtain ⟨Ai, ci, k1, k2, k3⟩ := hc i hi; exact ⟨Ai, ci, k1, k2, RdI.more k3 hB⟩⟩⟩
theorem RdT.form {w : World} {lo : Nat} {v : Value} {ts : List (List Int × ByteArray)} (h : FrT w lo v ts) : ∃ A c, v = .slice A ts.length c ∧ RdT w w.heap.size A c ts := by
  obtain ⟨A, c, rfl⟩ := h.form
  exact ⟨A, c, rfl, h.rd.2⟩

theorem offT_bound (ts : List (List Int × ByteArray)) (B : Nat) (h : ∀ i, i < ts.length → (gtr' ts i).1.length ≤ B) (j : Nat) (hj : j ≤ ts.length) : offT ts j ≤ j * (B + 1) := by
  induction j with
  | zero => exact Nat.zero_le _
  | succ j ih =>
    have h1 := ih (by omega)
    have h2 := h j (by omega)
    show offT ts j + (gtr' ts j).1.length + 1 ≤ _
    rw [Nat.succ_mul]
    omega
theorem cutsL_small (xs : List Int) (s : ByteArray) (left : Bool) (hg : treeB xs s = true) (k : Nat) (hk : k ≤ xs.length) (i : Nat) (hi : i < (cutsL xs s left k).length) : (gtr' (cutsL xs s left k) i).1.length ≤ 8 := by
  obtain ⟨t1, t2, t3, t4⟩ := treeB_of hg
  induction k with
  | zero => exact absurd hi (by simp [cutsL])
  | succ k ih =>
    have e : cutsL xs s left (k + 1) = if ((s.data.toList.getD k 0 == 76) == left) = true then cutsL xs s left k ++ [cutT xs s k] else cutsL xs s left k := rfl
    rw [e] at hi ⊢
    split
    · rename_i hc
      rw [if_pos hc, List.length_append, List.length_singleton] at hi
      by_cases hl : i < (cutsL xs s left k).length
      · have : gtr' (cutsL xs s left k ++ [cutT xs s k]) i = gtr' (cutsL xs s left k) i := by unfold gtr'; rw [List.getD_eq_getElem?_getD, List.getElem?_append_left hl, ← List.getD_eq_getElem?_getD]
        rw [this]
        exact ih (by omega) hl
      · have hie : i = (cutsL xs s left k).length := by omega
        have : gtr' (cutsL xs s left k ++ [cutT xs s k]) i = cutT xs s k := by unfold gtr'; rw [hie]; simp
        rw [this]
        have := (cutT_ok hg (e := k) (by omega)).2
        omega
    · rename_i hc
      rw [if_neg hc] at hi
      exact ih (by omega) hi
theorem treeCuts_off (xs : List Int) (s : ByteArray) (left : Bool) : 1 + offT (treeCuts xs s left) (treeCuts xs s left).length ≤ 1000000000 := by
  have hl := treeCuts_len xs s left
  have hb := offT_bound (treeCuts xs s left) 8 (fun i hi => by
    unfold treeCuts at hi ⊢
    split
    · rename_i hg
      rw [if_pos hg] at hi
      exact cutsL_small xs s left hg _ (Nat.le_refl _) i hi
    · simp [gtr']) _ (Nat.le_refl _)
  have : (treeCuts xs s left).length * (8 + 1) ≤ 8 * 9 := Nat.mul_le_mul hl (Nat.le_refl _)
  omega

set_option maxHeartbeats 400000 in
theorem markTree1_any (A : Option Addr) (c : Nat) (xs : List Int) (s : ByteArray) (w : World) (lo : Nat) (h : Own w lo 3 (.slice A xs.length c) (ints xs)) (hl : xs.length ≤ 1048576) :
    Calls Tryd.prog 20 #[.agg #[.slice A xs.length c, .string s], .int .i64 1] w fun e w' => e = .returned (.int .i64 (1 + xs.length)) ∧ Own w' lo 3 (.slice A xs.length c) (ints (numRow 1 xs.length)) ∧ w.grownBy w' (Value.slice A xs.length c).ownBlock := by
  go_enter Tryd.func20, Tryd.ntmps20
  go_wp2_with fail
  have hbW := bel1 w (.cells #[.slice A xs.length c, .string s] 29)
  have hgW : w.grownBy (w.alloc (.cells #[.slice A xs.length c, .string s] 29)) (Value.slice A xs.length c).ownBlock := ⟨hbW.os, hbW.tape, hbW.output, hbW.size, fun k hk _ => hbW.block k hk⟩
  generalize w.alloc (.cells #[.slice A xs.length c, .string s] 29) = W at *
  ((with_reducible refine (markRow_any _ _ _ _ _ _ (h.below hbW) (by decide) (by omega)).mono ?_); rintro e w1 ⟨rfl, ho1, hg1⟩)
  have HO := Lib.hid ho1
  have hg2 := hgW.trans hg1
  clear ho1
  go_wp2
  go_ret
  exact ⟨rfl, HO.out, hg2⟩

set_option maxRecDepth 100000 in
set_option maxHeartbeats 6400000 in
theorem lawTreeCuts (A : Option Addr) (n c : Nat) (zs : List Int) (s : ByteArray) (left : Bool) (w : World) (h : IsRow .i64 w A n c zs) (hs : s.size ≤ maxLen) :
    Calls Tryd.prog 3 #[.agg #[.slice A n c, .string s], .bool left] w fun e w' => e = .returned (.bool true) ∧ Below w.heap.size w w' := by
  obtain ⟨hr, hl⟩ := h.rd
  clear h
  generalize zs.take n = xs at hr hl
  subst hl
  have h1 := hr.len
  have h2 := hr.max
  have hs' := hs
  unfold maxLen at hs'
  go_enter Tryd.func3, Tryd.ntmps3
  go_wp2_with fail
  have hzW : w.heap.size < (w.alloc (.cells #[.slice A xs.length c, .string s] 24)).heap.size := by simp
  have hsW : (w.alloc (.cells #[.slice A xs.length c, .string s] 24)).heap.size = w.heap.size + 1 := by simp
  have hAW : Below w.heap.size w (w.alloc (.cells #[.slice A xs.length c, .string s] 24)) := (Below.refl _ _).alloc (Nat.le_refl _) _
  have c0W : (w.alloc (.cells #[.slice A xs.length c, .string s] 24)).cell? ⟨w.heap.size, 0, none⟩ = some (.slice A xs.length c) := by simp [go_sem]
  have c1W : (w.alloc (.cells #[.slice A xs.length c, .string s] 24)).cell? ⟨w.heap.size, 1, none⟩ = some (.string s) := by simp [go_sem]
  generalize w.alloc (.cells #[.slice A xs.length c, .string s] 24) = W at *
  have hsW := Lib.hid hsW
  refine (szTree_any A c xs.length s W h1 h2 hs').mono ?_; rintro e w1 ⟨⟨m, rfl, hm⟩, hb1⟩
  have g1 : Below W.heap.size W w1 := hb1
  have hrW := hr.below hAW (Nat.le_refl _)
  have hs0 := fun w' (hg : Below W.heap.size W w') => (hg.cell (p := ⟨w.heap.size, 0, none⟩) hzW).trans c0W
  have hs1 := fun w' (hg : Below W.heap.size W w') => (hg.cell (p := ⟨w.heap.size, 1, none⟩) hzW).trans c1W
  have HS0 := Lib.hid hs0; have HS1 := Lib.hid hs1; clear hs0 hs1 c0W c1W
  have u10 := HS0.out _ g1; have u11 := HS1.out _ g1
  have hle : w.heap.size ≤ W.heap.size := hAW.size
  by_cases hmn : m < 0
  · go_wp2
    go_ret
    exact ⟨rfl, gtr hAW hb1⟩
  · have hsm : xs.length ≤ 1048576 := by omega
    clear hm
    obtain ⟨ts, hts⟩ : ∃ ts, ts = treeCuts xs s left := ⟨_, rfl⟩
    obtain ⟨b, hbb⟩ : ∃ b, b = treeB xs s := ⟨_, rfl⟩
    have hoff : 1 + offT ts ts.length ≤ 1000000000 := by rw [hts]; exact treeCuts_off xs s left
    have HS : Hid (∀ A c V, RdI V V.heap.size A c xs → Calls Tryd.prog 15 #[.agg #[.slice A xs.length c, .string s], .bool left] V (RetC V ts b)) := fun A c V hr => by rw [hts, hbb]; exact treeCutsS_any A c xs s left V _ (Nat.le_refl _) hr hs
    have HI : Hid (∀ A c V, RdI V V.heap.size A c xs → Calls Tryd.prog 17 #[.agg #[.slice A xs.length c, .string s], .bool left] V (RetC V ts b)) := fun A c V hr => by rw [hts, hbb]; exact treeCutsI_any A c xs s left V _ (Nat.le_refl _) hr hs
    clear hts hbb
    go_wp2_with fail
    refine (toTree_any A c xs s w1 w.heap.size (by have := hb1.size; omega) (hrW.below g1 hle) hsm).mono ?_; rintro e w2 ⟨A2, c2, rfl, ho2, hb2⟩
    have g2 := gtr g1 hb2
    have u20 := HS0.out _ g2; have u21 := HS1.out _ g2
    clear u10 u11
    go_wp2_with fail
    ((with_reducible refine (HS.out A2 c2 w2 (ho2.rd rfl)).mono ?_); rintro e w3 ⟨v3, rfl, fr3, hb3⟩)
    obtain ⟨A3, c3, rfl, r3⟩ := RdT.form fr3
    have g3 := gtr g2 hb3
    have u30 := HS0.out _ g3; have u31 := HS1.out _ g3
    clear u20 u21 fr3 ho2
    go_wp2_with fail
    refine (toTree_any A c xs s w3 w.heap.size (by have := g3.size; omega) (hrW.below g3 hle) hsm).mono ?_; rintro e w4 ⟨A4, c4, rfl, ho4, hb4⟩
    have g4 := gtr g3 hb4
    have r4 := r3.below hb4 (Nat.le_refl _)
    go_wp2_with fail
    have hzV : w4.heap.size < (w4.alloc (.cells #[.slice A4 xs.length c4, .string s] 29)).heap.size := by simp
    have hsV : (w4.alloc (.cells #[.slice A4 xs.length c4, .string s] 29)).heap.size = w4.heap.size + 1 := by simp
    have hAV : Below w4.heap.size w4 (w4.alloc (.cells #[.slice A4 xs.length c4, .string s] 29)) := (Below.refl _ _).alloc (Nat.le_refl _) _
    have c0V : (w4.alloc (.cells #[.slice A4 xs.length c4, .string s] 29)).cell? ⟨w4.heap.size, 0, none⟩ = some (.slice A4 xs.length c4) := by simp [go_sem]
    have c1V : (w4.alloc (.cells #[.slice A4 xs.length c4, .string s] 29)).cell? ⟨w4.heap.size, 1, none⟩ = some (.string s) := by simp [go_sem]
    generalize w4.alloc (.cells #[.slice A4 xs.length c4, .string s] 29) = V at *
    have hsV := Lib.hid hsV
    have g5 := gtr g4 hAV
    have ho5 := ho4.below hAV
    have r5 := r4.below hAV hb4.size
    have HLT4 := Lib.hid (fun g hg => (own_ints.1 ho4).lt g hg)
    ((with_reducible refine (HI.out A4 c4 V (ho5.rd rfl)).mono ?_); rintro e w5 ⟨v5, rfl, fr5, hb5⟩)
    obtain ⟨A5, c5, rfl, -⟩ := RdT.form fr5
    have hz3 := hb4.size
    have hz4 := hAV.size
    have g6 := gtr g5 hb5
    have ho6 := ho5.below hb5
    have r6 := r5.below hb5 (by omega)
    have hs0 := fun w' (hg : Below V.heap.size V w') => (hg.cell (p := ⟨w4.heap.size, 0, none⟩) hzV).trans c0V
    have hs1 := fun w' (hg : Below V.heap.size V w') => (hg.cell (p := ⟨w4.heap.size, 1, none⟩) hzV).trans c1V
    have HV0 := Lib.hid hs0; have HV1 := Lib.hid hs1; clear hs0 hs1 c0V c1V u30 u31 r3 r4 r5 ho4 ho5
    have hz5 := hb5.size
    cases b
    all_goals
      go_wp2_with fail
      ((with_reducible refine (eqTS_same A5 A3 c5 c3 ts w5 _ (Nat.le_refl _) fr5.rd.2 (r6.more (by omega))).mono ?_); rintro e w6 ⟨rfl, hb6⟩)
      have g7 := gtr g6 hb6
      have hbV6 := gtr hb5 hb6
      have v0 := HS0.out _ g7; have v1 := HS1.out _ g7
      have x0 := HV0.out _ hbV6; have x1 := HV1.out _ hbV6
      have ho7 := ho6.below hb6
      have r7 := r6.below hb6 (by omega)
      have fr7 := fr5.below hb6
      have hz6 := hb6.size
      have hW6 : w.heap.size ≤ w6.heap.size := by have := g7.size; omega
      clear ho6 r6 fr5
      go_wp2
      go_region_held3 (fun w' => w'.cell? ⟨w.heap.size, 0, none⟩ = some (.slice A xs.length c) ∧ w'.cell? ⟨w.heap.size, 1, none⟩ = some (.string s) ∧ w'.cell? ⟨w4.heap.size, 0, none⟩ = some (.slice A4 xs.length c4) ∧ w'.cell? ⟨w4.heap.size, 1, none⟩ = some (.string s)) (go_keep)
        (first
          | (go_at_call 16; refine (toTree_any A c xs s w6.drew w.heap.size (by show _ ≤ w6.heap.size; omega) (hrW.below (gtr g7 (gdrew (a := w6))) hle) hsm).mono ?_; rintro e w7 ⟨A7, c7, rfl, hoe, hb7⟩; have g8 := gtr (gdrew (a := w6)) hb7; have s0 := HS0.out _ (gtr g7 g8); have s1 := HS1.out _ (gtr g7 g8); have s2 := HV0.out _ (gtr hbV6 g8); have s3 := HV1.out _ (gtr hbV6 g8))
          | (go_at_call 19; refine (eqTree_same A4 A7 c4 c7 xs s w7 w7.heap.size (Nat.le_refl _) ((ho7.below g8).rd rfl) (hoe.rd rfl)).mono ?_; rintro e w8 ⟨rfl, hb8⟩; have g9 := gtr g8 hb8; have t0 := HS0.out _ (gtr g7 g9); have t1 := HS1.out _ (gtr g7 g9); have t2 := HV0.out _ (gtr hbV6 g9); have t3 := HV1.out _ (gtr hbV6 g9)))
      have ho8 := ho7.below g9
      have r8 := r7.below g9 (by omega)
      have fr8 := fr7.below g9
      have g10 := gtr g7 g9
      have gV8 := gtr hbV6 g9
      have hz8 := g9.size
      clear s0 s1 s2 s3 t0 t1 v0 v1 x0 x1 hoe hb7 hb8 ho7 r7 fr7
      go_wp2_with fail
      ((with_reducible refine (markTree1_any A4 c4 xs s w8 _ (own_ints.1 ho8) hsm).mono ?_); rintro e w9 ⟨rfl, ho9, hg9⟩)
      have hne4 : ∀ g, (Value.slice A4 xs.length c4).ownBlock = some g → w3.heap.size ≤ g ∧ g < w4.heap.size := fun g hg => HLT4.out g hg
      have r9 := r8.grownUp hg9 (by omega) (fun g hg => (hne4 g hg).1)
      have fr9 := fr8.grown hg9 (fun g hg => by have := (hne4 g hg).2; omega)
      have hz9 := hg9.size
      have g11 : Below W.heap.size W w9 := g10.grown hg9 (by have := g10.size; omega) fun g hg => by have := (hne4 g hg).1; have := g3.size; omega
      clear t2 t3 r8 fr8 ho8 ho9 hg9
      have hk0 : ¬ (1 : Int) + (xs.length : Int) < 0 := by omega
      go_wp2_with fail
      ((with_reducible refine (eqTS_same A5 A3 c5 c3 ts w9 _ (Nat.le_refl _) fr9.rd.2 (r9.more (by omega))).mono ?_); rintro e w10 ⟨rfl, hb10⟩)
      have g12 := gtr g11 hb10
      have r10 := r9.below hb10 (by omega)
      have fr10 := fr9.below hb10
      have hz10 := hb10.size
      clear r9 fr9
      obtain ⟨K, hK⟩ : ∃ K, K = 1 + offT ts ts.length := ⟨_, rfl⟩
      obtain ⟨ms, hms⟩ : ∃ ms, ms = mkT 1 ts ts.length := ⟨_, rfl⟩
      have hml : ms.length = ts.length := by rw [hms, mkT_len]
      have HMK : Hid (Calls Tryd.prog 21 #[.slice A5 ts.length c5, .int .i64 1] w10 fun e w' => e = .returned (.int .i64 K) ∧ FrT w' V.heap.size (.slice A5 ts.length c5) ms ∧ Below V.heap.size w10 w') := by
        have := markTS_any A5 c5 ts 1 w10 V.heap.size fr10 (by omega) (by decide) hoff
        rw [← hK, ← hms] at this
        exact this
      have HHD : Hid (∀ W, RdT W W.heap.size A5 c5 ms → Calls Tryd.prog 22 #[.slice A5 ts.length c5, .int .i64 1] W fun e w' => e = .returned (.int .i64 K) ∧ Below W.heap.size W w') := fun W hr => by
        rw [hms] at hr
        have := heldTS_any A5 c5 ts 1 W _ (Nat.le_refl _) hr (by decide) hoff
        rw [← hK] at this
        exact this
      clear hK hms
      have hKn : ¬ (K : Int) < 0 := by omega
      have hKe : ((K : Int) != (K : Int)) = false := by simp
      go_wp2_with fail
      ((with_reducible refine (HMK.out).mono ?_); rintro e w11 ⟨rfl, fr11, hb11⟩)
      have hz11 := hb11.size
      have R11 : RdT w11 w11.heap.size A5 c5 ms := fr11.rd.2
      have r11 := r10.below hb11 (by omega)
      have g13 : Below W.heap.size W w11 := g12.trans (hb11.mono (by have := g4.size; omega))
      clear fr11 fr10 r10 hb11
      go_wp2_with fail
      ((with_reducible refine (HHD.out _ R11).mono ?_); rintro e w12 ⟨rfl, hb12⟩)
      have g14 := gtr g13 hb12
      have r12 := r11.below hb12 (by omega)
      have R12 := R11.below hb12 (Nat.le_refl _)
      have hz12 := hb12.size
      have y0 := HS0.out _ g14; have y1 := HS1.out _ g14
      have hW12 : w.heap.size ≤ w12.heap.size := by have := g14.size; omega
      clear R11 r11 hb12
      go_wp2_with fail
      refine (toTree_any A c xs s w12 w.heap.size hW12 (hrW.below g14 hle) hsm).mono ?_; rintro e w13 ⟨A13, c13, rfl, ho13, hb13⟩
      have g15 := gtr g14 hb13
      have r13 := r12.below hb13 (by omega)
      have R13 := R12.below hb13 (by omega)
      have hz13 := hb13.size
      clear r12 R12 hb13 y0 y1
      go_wp2_with fail
      ((with_reducible refine (HI.out A13 c13 w13 (ho13.rd rfl)).mono ?_); rintro e w14 ⟨v14, rfl, fr14, hb14⟩)
      obtain ⟨A14, c14, rfl, r14⟩ := RdT.form fr14
      have g16 := gtr g15 hb14
      have r15 := r13.below hb14 (by omega)
      have R15 := R13.below hb14 (by omega)
      have hz14 := hb14.size
      clear r13 R13 hb14 ho13 fr14
      go_wp2_with fail
      ((with_reducible refine (eqTS_same A14 A3 c14 c3 ts w14 _ (Nat.le_refl _) r14 (r15.more (by omega))).mono ?_); rintro e w15 ⟨rfl, hb15⟩)
      have g17 := gtr g16 hb15
      have R16 := R15.below hb15 (by omega)
      have hz15 := hb15.size
      clear R15 r14 r15 hb15
      go_wp2_with fail
      ((with_reducible refine (HHD.out _ (R16.more (by omega))).mono ?_); rintro e w16 ⟨rfl, hb16⟩)
      have g18 := gtr g17 hb16
      go_wp2
      go_ret
      exact ⟨rfl, gtr hAW g18⟩
end Go.Proofs.YtadljglcbieifaaDoor
