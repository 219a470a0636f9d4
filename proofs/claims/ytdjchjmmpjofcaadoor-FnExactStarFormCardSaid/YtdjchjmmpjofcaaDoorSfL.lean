/- StarForm: the law's answer is true. Conditions: none. -/
import Derived.Test.YtdjchjmmpjofcaaDoorSfI
import Derived.Test.YtdjchjmmpjofcaaDoorSfC
namespace Go.Proofs.YtdjchjmmpjofcaaDoor
open Go.RowKit Go.Maps
set_option linter.unusedVariables false

theorem off_small : ∀ n, n < 16 → off (nodesC (n + 1)) ((n + 1) * 2) ≤ 100000 := by decide +kernel

set_option maxHeartbeats 3200000 in
theorem lawStarForm_in (n : Nat) (w : World) (hn : n ≤ 15) :
    Calls Tryd.prog 3 #[.int .i64 (n : Int)] w fun e w' => e = .returned (.bool true) ∧ Below w.heap.size w w' := by
  have HS := Lib.hid fun W => starFormS_any n W hn
  have HI := Lib.hid fun W => starFormI_any n W hn
  have hof := off_small n (by omega)
  obtain ⟨m, hm⟩ : ∃ m : Int, m = 1 + (off (nodesC (n + 1)) ((n + 1) * 2) : Int) := ⟨_, rfl⟩
  have hm0 : ¬ m < 0 := by omega
  have HMK : Hid (∀ (A : Option Addr) (c : Nat) (W : World) (lo : Nat) (cs : List Value), lo ≤ W.heap.size → FrN W lo (.slice A (n + 1) c) (n + 1) cs cs ((nodesC (n + 1)).map ints) →
      Calls Tryd.prog 7 #[.agg #[.slice A (n + 1) c], .int .i64 1] W fun e w' => e = .returned (.int .i64 m) ∧ FrN w' lo (.slice A (n + 1) c) (n + 1) cs cs ((mk 1 (nodesC (n + 1)) ((n + 1) * 2)).map ints) ∧ Below lo W w' ∧ KeptF W w') := Lib.hid fun A c W lo cs hlo h => by
    rw [hm]
    exact markForm_any A c (n + 1) (nodesC (n + 1)) 1 W lo cs (by omega) (nodesC_len (n + 1)) hlo (by omega) (by omega) h
  have HHD : Hid (∀ (A : Option Addr) (c : Nat) (W : World) (lo : Nat) (cs : List Value), FrN W lo (.slice A (n + 1) c) (n + 1) cs cs ((mk 1 (nodesC (n + 1)) ((n + 1) * 2)).map ints) →
      Calls Tryd.prog 8 #[.agg #[.slice A (n + 1) c], .int .i64 1] W fun e w' => e = .returned (.int .i64 m) ∧ Below W.heap.size W w') := Lib.hid fun A c W lo cs h => by
    rw [hm]
    exact heldForm_any A c (n + 1) (nodesC (n + 1)) 1 W lo cs (by omega) (nodesC_len (n + 1)) (by omega) (by omega) h
  clear hm hof
  go_enter Tryd.func3, Tryd.ntmps3
  go_wp2_with fail
  ((with_reducible refine (HS.out _).mono ?_); rintro e w1 ⟨A, c, rfl, ⟨cs, hN⟩, hb1⟩)
  have j0 := Blk.new w1 24 #[.slice A (n + 1) c]
  have hA1 := bel1 w1 (.cells #[.slice A (n + 1) c] 24)
  have hsz : (w1.alloc (.cells #[.slice A (n + 1) c] 24)).heap.size = w1.heap.size + 1 := by simp
  have hR0 := (hN.rdN).below hA1 (Nat.le_refl _)
  have HR0 := Lib.hid hR0
  have HJ0 := Lib.hid j0
  have HA1 := Lib.hid (hb1.trans (hA1.mono hb1.size))
  clear hN hR0 j0 hA1 hb1
  go_wp2_with fail
  ((with_reducible refine (HI.out _).mono ?_); rintro e w2 ⟨A2, c2, rfl, ⟨cs2, hN2⟩, hb2⟩)
  rw [hsz] at hN2 hb2
  have hz1 : w.heap.size ≤ w1.heap.size + 1 := by have := HA1.out.size; rw [hsz] at this; exact this
  have hz2 : w1.heap.size + 1 ≤ w2.heap.size := by have := hb2.size; rw [hsz] at this; exact this
  obtain ⟨W2, hW2⟩ : ∃ W2, W2 = w2.alloc (.cells #[.slice A2 (n + 1) c2] 24) := ⟨_, rfl⟩
  have hA2 : Below w2.heap.size w2 W2 := by rw [hW2]; exact bel1 _ _
  have i0 : Blk W2 w1.heap.size 24 #[.slice A (n + 1) c] := by rw [hW2]; exact (HJ0.out.below hb2 (by omega)).alloc _
  have i1 : Blk W2 w2.heap.size 24 #[.slice A2 (n + 1) c2] := by rw [hW2]; exact Blk.new _ _ _
  have hN3 := hN2.below hA2
  have hR2 := ((HR0.out).below hb2 (Nat.le_succ _)).below hA2 (show w1.heap.size ≤ w2.heap.size by omega)
  have hB2 : Below w.heap.size w W2 := (HA1.out.trans (hb2.mono hz1)).trans (hA2.mono (by omega))
  have hzW2 := hA2.size
  have HE := Lib.hid (eqForm_any A2 A c2 c (n + 1) W2 W2.heap.size (by omega) (Nat.le_refl _) hN3.rdN (hR2.more (by omega)))
  have y0 : W2.cell? ⟨w1.heap.size, 0, none⟩ = some (.slice A (n + 1) c) := i0.cell 0
  have y1 : W2.cell? ⟨w2.heap.size, 0, none⟩ = some (.slice A2 (n + 1) c2) := i1.cell 0
  have HN3 := Lib.hid hN3
  have HR2 := Lib.hid hR2
  have HB2 := Lib.hid hB2
  have H0 := Lib.hid i0
  have H1 := Lib.hid i1
  clear hA2 hN2 hN3 hR2 hB2 hb2 i0 i1 HA1 HR0 HJ0
  subst hW2
  go_wp2_with fail
  ((with_reducible refine HE.out.mono ?_); rintro e w3 ⟨rfl, hb3⟩)
  have H03 := Lib.hid (H0.out.below hb3 H0.out.lt)
  have H13 := Lib.hid (H1.out.below hb3 H1.out.lt)
  have HN4 := Lib.hid (HN3.out.below hb3)
  have HR3 := Lib.hid (HR2.out.below hb3 (by omega))
  have HB3 := Lib.hid (HB2.out.trans (hb3.mono HB2.out.size))
  have hz3 := hb3.size
  have z0 : w3.cell? ⟨w1.heap.size, 0, none⟩ = some (.slice A (n + 1) c) := H03.out.cell 0
  have z1 : w3.cell? ⟨w2.heap.size, 0, none⟩ = some (.slice A2 (n + 1) c2) := H13.out.cell 0
  clear HE y0 y1 HN3 HR2 HB2 H0 H1 hb3
  go_wp2_with fail
  ((with_reducible refine (HMK.out A2 c2 w3 (w1.heap.size + 1) cs2 (by omega) HN4.out).mono ?_); rintro e w4 ⟨rfl, hN4, hb4, hk4⟩)
  have H04 := Lib.hid (hk4 _ _ H03.out)
  have H14 := Lib.hid (hk4 _ _ H13.out)
  have HR4 := Lib.hid (HR3.out.below hb4 (Nat.le_succ _))
  have HB4 := Lib.hid (HB3.out.trans (hb4.mono hz1))
  have hz4 := hb4.size
  have HN5 := Lib.hid hN4
  have x0 : w4.cell? ⟨w1.heap.size, 0, none⟩ = some (.slice A (n + 1) c) := H04.out.cell 0
  have x1 : w4.cell? ⟨w2.heap.size, 0, none⟩ = some (.slice A2 (n + 1) c2) := H14.out.cell 0
  clear HMK z0 z1 HN4 HR3 HB3 H03 H13 hb4 hk4 hN4
  go_wp2_with fail
  ((with_reducible refine (HHD.out A2 c2 w4 (w1.heap.size + 1) cs2 HN5.out).mono ?_); rintro e w5 ⟨rfl, hb5⟩)
  have H05 := Lib.hid (H04.out.below hb5 H04.out.lt)
  have H15 := Lib.hid (H14.out.below hb5 H14.out.lt)
  have HN6 := Lib.hid (HN5.out.below hb5)
  have HR5 := Lib.hid (HR4.out.below hb5 (by omega))
  have HB5 := Lib.hid (HB4.out.trans (hb5.mono HB4.out.size))
  have hz5 := hb5.size
  clear HN5 HR4 HB4 H04 H14 hb5 x0 x1
  go_wp2_with fail
  ((with_reducible refine (HI.out _).mono ?_); rintro e w6 ⟨A3, c3, rfl, ⟨cs3, hN7⟩, hb6⟩)
  obtain ⟨W6, hW6⟩ : ∃ W6, W6 = w6.alloc (.cells #[.slice A3 (n + 1) c3] 24) := ⟨_, rfl⟩
  have hA6 : Below w6.heap.size w6 W6 := by rw [hW6]; exact bel1 _ _
  have hg6 : Below w5.heap.size w5 W6 := gtr hb6 hA6
  have i0 := H05.out.below hg6 H05.out.lt
  have i1 := H15.out.below hg6 H15.out.lt
  have i2 : Blk W6 w6.heap.size 24 #[.slice A3 (n + 1) c3] := by rw [hW6]; exact Blk.new _ _ _
  have hR6 := HR5.out.below hg6 (by omega)
  have hN8 := hN7.below hA6
  have HN6' := Lib.hid (HN6.out.below hg6)
  have HB6 := Lib.hid (HB5.out.trans (hg6.mono HB5.out.size))
  have hz6 := hg6.size
  have HE := Lib.hid (eqForm_any A3 A c3 c (n + 1) W6 W6.heap.size (by omega) (Nat.le_refl _) hN8.rdN (hR6.more (by omega)))
  have y0 : W6.cell? ⟨w1.heap.size, 0, none⟩ = some (.slice A (n + 1) c) := i0.cell 0
  have y2 : W6.cell? ⟨w6.heap.size, 0, none⟩ = some (.slice A3 (n + 1) c3) := i2.cell 0
  have H1 := Lib.hid i1
  clear i0 i1 i2 hR6 hN8 hN7 hA6 hg6 hb6 H05 H15 HR5 HN6 HB5 HI
  subst hW6
  go_wp2_with fail
  ((with_reducible refine HE.out.mono ?_); rintro e w7 ⟨rfl, hb7⟩)
  have H17 := Lib.hid (H1.out.below hb7 H1.out.lt)
  have HN9 := Lib.hid (HN6'.out.below hb7)
  have HB7 := Lib.hid (HB6.out.trans (hb7.mono HB6.out.size))
  have y1 : w7.cell? ⟨w2.heap.size, 0, none⟩ = some (.slice A2 (n + 1) c2) := H17.out.cell 0
  clear HE y0 y2 H1 HN6' HB6 hb7
  go_wp2_with fail
  ((with_reducible refine (HHD.out A2 c2 w7 (w1.heap.size + 1) cs2 HN9.out).mono ?_); rintro e w8 ⟨rfl, hb8⟩)
  go_wp2_with fail
  go_ret
  exact ⟨rfl, HB7.out.trans (hb8.mono HB7.out.size)⟩
theorem frN_none (w : World) (lo : Nat) : FrN w lo (.slice none 0 0) 0 [] [] (([] : List (List Int)).map ints) :=
  ⟨⟨rfl, Or.inl ⟨rfl, rfl⟩⟩, ⟨rfl, fun i hi => by simp at hi, fun i j u u' g hi => by simp at hi⟩, fun i u g hi => by simp at hi⟩
theorem rdN_none (w : World) (B : Nat) : RdN w B none 0 0 := ⟨Nat.le_refl _, Nat.zero_le _, fun i hi => absurd hi (Nat.not_lt_zero _)⟩
set_option maxHeartbeats 3200000 in
theorem lawStarForm_out (a : Int) (w : World) (ha : a < 0 ∨ 15 < a) :
    Calls Tryd.prog 3 #[.int .i64 a] w fun e w' => e = .returned (.bool true) ∧ Below w.heap.size w w' := by
  have HS := Lib.hid fun W => starFormS_out a W ha
  have HI := Lib.hid fun W => starFormI_out a W ha
  have HE := Lib.hid fun W => eqForm_any none none 0 0 0 W W.heap.size (by omega) (Nat.le_refl _) (rdN_none W _) (rdN_none W _)
  have HMK : Hid (∀ W, Calls Tryd.prog 7 #[.agg #[.slice none 0 0], .int .i64 1] W fun e w' => e = .returned (.int .i64 1) ∧ Below W.heap.size W w' ∧ KeptF W w') := Lib.hid fun W =>
    (markForm_any none 0 0 [] 1 W W.heap.size [] (by omega) rfl (Nat.le_refl _) (by omega) (by simp [off]) (frN_none W _)).mono fun e w' h => ⟨h.1, h.2.2⟩
  have HHD : Hid (∀ W, Calls Tryd.prog 8 #[.agg #[.slice none 0 0], .int .i64 1] W fun e w' => e = .returned (.int .i64 1) ∧ Below W.heap.size W w') := Lib.hid fun W =>
    heldForm_any none 0 0 [] 1 W 0 [] (by omega) rfl (by omega) (by simp [off]) (frN_none W _)
  clear ha
  go_enter Tryd.func3, Tryd.ntmps3
  go_wp2_with fail
  ((with_reducible refine (HS.out _).mono ?_); rintro e w1 ⟨rfl, hb1⟩)
  have HJ0 := Lib.hid (Blk.new w1 24 #[.slice none 0 0])
  have HA1 := Lib.hid (hb1.trans ((bel1 w1 (.cells #[.slice none 0 0] 24)).mono hb1.size))
  have hz1 := hb1.size
  clear hb1
  go_wp2_with fail
  ((with_reducible refine (HI.out _).mono ?_); rintro e w2 ⟨rfl, hb2⟩)
  have hsz : (w1.alloc (.cells #[.slice none 0 0] 24)).heap.size = w1.heap.size + 1 := by simp
  have hz2 := hb2.size
  rw [hsz] at hz2
  have H0 := Lib.hid ((HJ0.out.below hb2 HJ0.out.lt).alloc (.cells #[.slice none 0 0] 24))
  have H1 := Lib.hid (Blk.new w2 24 #[.slice none 0 0])
  have HB2 := Lib.hid ((HA1.out.trans (hb2.mono (by rw [hsz]; omega))).trans ((bel1 w2 (.cells #[.slice none 0 0] 24)).mono (by omega)))
  have y0 : (w2.alloc (.cells #[.slice none 0 0] 24)).cell? ⟨w1.heap.size, 0, none⟩ = some (.slice none 0 0) := H0.out.cell 0
  have y1 : (w2.alloc (.cells #[.slice none 0 0] 24)).cell? ⟨w2.heap.size, 0, none⟩ = some (.slice none 0 0) := H1.out.cell 0
  clear HJ0 HA1 hb2 hsz
  go_wp2_with fail
  ((with_reducible refine (HE.out _).mono ?_); rintro e w3 ⟨rfl, hb3⟩)
  have H03 := Lib.hid (H0.out.below hb3 H0.out.lt)
  have H13 := Lib.hid (H1.out.below hb3 H1.out.lt)
  have HB3 := Lib.hid (HB2.out.trans (hb3.mono HB2.out.size))
  have z0 : w3.cell? ⟨w1.heap.size, 0, none⟩ = some (.slice none 0 0) := H03.out.cell 0
  have z1 : w3.cell? ⟨w2.heap.size, 0, none⟩ = some (.slice none 0 0) := H13.out.cell 0
  clear y0 y1 HB2 H0 H1 hb3
  go_wp2_with fail
  ((with_reducible refine (HMK.out w3).mono ?_); rintro e w4 ⟨rfl, hb4, hk4⟩)
  have H04 := Lib.hid (hk4 _ _ H03.out)
  have H14 := Lib.hid (hk4 _ _ H13.out)
  have HB4 := Lib.hid (HB3.out.trans (hb4.mono HB3.out.size))
  have x0 : w4.cell? ⟨w1.heap.size, 0, none⟩ = some (.slice none 0 0) := H04.out.cell 0
  have x1 : w4.cell? ⟨w2.heap.size, 0, none⟩ = some (.slice none 0 0) := H14.out.cell 0
  clear HMK z0 z1 HB3 H03 H13 hb4 hk4
  go_wp2_with fail
  ((with_reducible refine (HHD.out w4).mono ?_); rintro e w5 ⟨rfl, hb5⟩)
  have H05 := Lib.hid (H04.out.below hb5 H04.out.lt)
  have H15 := Lib.hid (H14.out.below hb5 H14.out.lt)
  have HB5 := Lib.hid (HB4.out.trans (hb5.mono HB4.out.size))
  clear HB4 H04 H14 hb5 x0 x1
  go_wp2_with fail
  ((with_reducible refine (HI.out _).mono ?_); rintro e w6 ⟨rfl, hb6⟩)
  have hA6 := bel1 w6 (.cells #[.slice none 0 0] 24)
  have hg6 := gtr hb6 hA6
  have H06 := Lib.hid (H05.out.below hg6 H05.out.lt)
  have H16 := Lib.hid (H15.out.below hg6 H15.out.lt)
  have H26 := Lib.hid (Blk.new w6 24 #[.slice none 0 0])
  have HB6 := Lib.hid (HB5.out.trans (hg6.mono HB5.out.size))
  have y0 : (w6.alloc (.cells #[.slice none 0 0] 24)).cell? ⟨w1.heap.size, 0, none⟩ = some (.slice none 0 0) := H06.out.cell 0
  have y2 : (w6.alloc (.cells #[.slice none 0 0] 24)).cell? ⟨w6.heap.size, 0, none⟩ = some (.slice none 0 0) := H26.out.cell 0
  clear hA6 hg6 hb6 H05 H15 HB5 HI
  go_wp2_with fail
  ((with_reducible refine (HE.out _).mono ?_); rintro e w7 ⟨rfl, hb7⟩)
  have H17 := Lib.hid (H16.out.below hb7 H16.out.lt)
  have HB7 := Lib.hid (HB6.out.trans (hb7.mono HB6.out.size))
  have y1 : w7.cell? ⟨w2.heap.size, 0, none⟩ = some (.slice none 0 0) := H17.out.cell 0
  clear HE y0 y2 H16 H06 H26 HB6 hb7
  go_wp2_with fail
  ((with_reducible refine (HHD.out w7).mono ?_); rintro e w8 ⟨rfl, hb8⟩)
  go_wp2_with fail
  go_ret
  exact ⟨rfl, HB7.out.trans (hb8.mono HB7.out.size)⟩
theorem lawStarForm (a : Int) (w : World) (haw : (Lit.int .i64 a).wf = true) :
    Calls Tryd.prog 3 #[.int .i64 a] w fun e w' => e = .returned (.bool true) ∧ Below w.heap.size w w' := by
  by_cases ha : 0 ≤ a ∧ a ≤ 15
  · obtain ⟨n, rfl⟩ := Int.eq_ofNat_of_zero_le ha.1
    exact lawStarForm_in n w (by omega)
  · exact lawStarForm_out a w (by omega)
end Go.Proofs.YtdjchjmmpjofcaaDoor
