/- The reference's test of walls: contract. Conditions: none. -/
import Derived.Test.YtidfbbegjpfjpaaWal2
import Derived.Test.YtidfbbegjpfjpaaSl
namespace Go.Proofs.Ytidfbbegjpfjpaa
open Go.RowKit
set_option linter.unusedVariables false

theorem less_pt (x y : Pt) (w : World) (hx : goodDyB x.t x.p = true) (hy : goodDyB y.t y.p = true) :
    Calls Try.prog 43 #[.agg #[.int .i64 x.t, .int .i64 x.p], .agg #[.int .i64 y.t, .int .i64 y.p]] w fun e w' => e = .returned (.bool (decide (pa x < pa y))) ∧ Below w.heap.size w w' := by
  rw [goodDyB, decide_eq_true_eq] at hx hy
  have := l2Less_any x.t y.t x.p.toNat y.p.toNat w (by omega) (by omega) (sc_fits _ _ (by omega) (by omega)) (sc_fits _ _ (by omega) (by omega))
  rwa [show ((x.p.toNat : Nat) : Int) = x.p by omega, show ((y.p.toNat : Nat) : Int) = y.p by omega] at this
theorem slope_pt (x y : Pt) (w : World) (hx : gPt x) (hy : gPt y) :
    Calls Try.prog 44 #[.agg #[.int .i64 x.t, .int .i64 x.p, .int .i64 x.u, .int .i64 x.q], .agg #[.int .i64 y.t, .int .i64 y.p, .int .i64 y.u, .int .i64 y.q]] w fun e w' =>
      e = .returned (.int .i64 (slp (pa y - pa x) (pv y - pv x))) ∧ Below w.heap.size w w' := by
  obtain ⟨h1, h2⟩ := gPt_facts hx
  obtain ⟨h3, h4⟩ := gPt_facts hy
  have := l11Slope_any x.t x.u y.t y.u x.p.toNat x.q.toNat y.p.toNat y.q.toNat w (by omega) (by omega) (by omega) (by omega) (by omega) (by omega) (by omega) (by omega)
  rwa [show ((x.p.toNat : Nat) : Int) = x.p by omega, show ((y.p.toNat : Nat) : Int) = y.p by omega, show ((x.q.toNat : Nat) : Int) = x.q by omega, show ((y.q.toNat : Nat) : Int) = y.q by omega] at this
/-- What the reference's first loop has seen. -/
def Seen1 (xs : List Pt) (k : Nat) : Prop := ∀ i, i < k → gPt (gp xs i) ∧ (0 < i → pa (gp xs (i - 1)) < pa (gp xs i))

set_option maxRecDepth 100000 in
set_option maxHeartbeats 1600000 in
theorem goodWallS_any (A : Option Addr) (c : Nat) (xs : List Pt) (w : World) (B : Nat) (hB : B ≤ w.heap.size) (h : RdP w B A c xs) :
    Calls Try.prog 19 #[.slice A xs.length c] w fun e w' => e = .returned (.bool (gwB xs)) ∧ Below w.heap.size w w' := by
  have h1 := h.len
  have h2 := h.max
  have hin := fun W => l1In_any xs.length 1 40 W
  by_cases hn : 1 ≤ xs.length ∧ xs.length ≤ 40
  · obtain ⟨hn1, hn2⟩ := hn
    rw [show inB xs.length 1 40 = true by simp [inB]; omega] at hin
    have HI := Lib.hid hin; clear hin
    obtain ⟨b, o, rfl, hbB, hc⟩ := h.at (j := 0) (by omega)
    have HC : Hid (∀ w', Below w.heap.size w w' → ∀ i, i < xs.length → C4 w' b (o + i * 4) (gp xs i)) := fun w' hb i hi => (hc i hi).keep fun p hp => hb.cell (by rw [hp]; omega)
    obtain ⟨c0, c1, _, _⟩ := hc 0 (by omega)
    rw [Nat.zero_mul, Nat.add_zero] at c0 c1
    have hbz : b < w.heap.size := by omega
    clear hc h
    by_cases hat : (gp xs 0).t = 0 ∧ (gp xs 0).p = 0
    · obtain ⟨ha, hp⟩ := hat
      rw [ha] at c0
      rw [hp] at c1
      have HA : Hid ((gp xs 0).t = 0 ∧ (gp xs 0).p = 0) := ⟨ha, hp⟩
      clear ha hp
      go_enter Try.func19, Try.ntmps19
      go_wp2_with (go_at_call 37; refine (HI.out _).mono ?_; rintro e w1 ⟨rfl, rfl⟩)
      go_loopw [3] (fun i wr => ∃ k : Nat, i = .int .i64 k ∧ k ≤ xs.length ∧ Seen1 xs k ∧ Below w.heap.size w wr) (fun i _ => xs.length - (intOf i).toNat)
      case atStart => exact ⟨0, rfl, by omega, fun j hj => absurd hj (by omega), Below.refl _ _⟩
      case round =>
        obtain ⟨k, rfl, hk, hs, hb⟩ := hrel
        have HS := Lib.hid hs; clear hs c0 c1
        have hzr := hb.size
        by_cases hlt : k < xs.length
        · obtain ⟨k0, k1, k2, k3⟩ := HC.out wr hb k hlt
          obtain ⟨X, hX⟩ : ∃ X, X = gp xs k := ⟨_, rfl⟩
          rw [← hX] at k0 k1 k2 k3
          have hG1 := fun W => goodDyS_any X.t X.p W
          have hG2 := fun W => goodDyS_any X.u X.q W
          have hbv : b < wr.heap.size := by omega
          have hk0 := fun x => (grow_cell (w := wr) b (o + k * 4) hbv x).trans k0
          have hk1 := fun x => (grow_cell (w := wr) b (o + k * 4 + 1) hbv x).trans k1
          have hk2 := fun x => (grow_cell (w := wr) b (o + k * 4 + 2) hbv x).trans k2
          have hk3 := fun x => (grow_cell (w := wr) b (o + k * 4 + 3) hbv x).trans k3
          clear k0 k1 k2 k3
          cases hg1 : goodDyB X.t X.p
          · have HN : Hid (gwB xs = false) := gwB_f fun hh => by
              have := (hh.2.2.2.1 k hlt).1
              rw [← hX, hg1] at this
              cases this
            rw [hg1] at hG1
            have HG1 := Lib.hid hG1; clear hG1 hG2 hg1 hX
            obtain ⟨t, p, u, q⟩ := X
            simp only at hk0 hk1 hk2 hk3 HG1
            go_wp2
            refine wp_region_inv (Below wr.heap.size wr) (grow0 _) (by kernel_rfl) (by kernel_rfl) ?_
            repeat (go_big_quiet_step (first
              | (go_at_call 20; with_reducible exact grow_step (HG1.out _))))
            refine wpQuiet_nil ?_
            intro w2 hw'
            have hb2 := grow_of hw'
            clear hw'
            go_wp2
            go_ret
            exact ⟨ret_bool HN.out.symm, hb.trans (hb2.mono hzr)⟩
          · cases hg2 : goodDyB X.u X.q
            · have HN : Hid (gwB xs = false) := gwB_f fun hh => by
                have := (hh.2.2.2.1 k hlt).2
                rw [← hX, hg2] at this
                cases this
              rw [hg1] at hG1
              rw [hg2] at hG2
              have HG1 := Lib.hid hG1; have HG2 := Lib.hid hG2; clear hG1 hG2 hg1 hg2 hX
              obtain ⟨t, p, u, q⟩ := X
              simp only at hk0 hk1 hk2 hk3 HG1 HG2
              go_wp2
              refine wp_region_inv (Below wr.heap.size wr) (grow0 _) (by kernel_rfl) (by kernel_rfl) ?_
              repeat (go_big_quiet_step (first
                | (go_at_call 20; with_reducible exact grow_step (HG1.out _))
                | (go_at_call 20; with_reducible exact grow_step (HG2.out _))))
              refine wpQuiet_nil ?_
              intro w2 hw'
              have hb2 := grow_of hw'
              clear hw'
              go_wp2
              go_ret
              exact ⟨ret_bool HN.out.symm, hb.trans (hb2.mono hzr)⟩
            · have HGX : Hid (gPt (gp xs k)) := by show gPt _; rw [← hX]; exact ⟨hg1, hg2⟩
              have hg1' := hg1
              rw [hg1] at hG1
              rw [hg2] at hG2
              cases k with
              | zero =>
                have HG1 := Lib.hid hG1; have HG2 := Lib.hid hG2; clear hG1 hG2 hg1 hg2 hX hg1'
                obtain ⟨t, p, u, q⟩ := X
                simp only at hk0 hk1 hk2 hk3 HG1 HG2
                simp only [Nat.zero_mul, Nat.add_zero] at hk0 hk1 hk2 hk3
                go_wp2
                refine wp_region_inv (Below wr.heap.size wr) (grow0 _) (by kernel_rfl) (by kernel_rfl) ?_
                repeat (go_big_quiet_step (first
                  | (go_at_call 20; with_reducible exact grow_step (HG1.out _))
                  | (go_at_call 20; with_reducible exact grow_step (HG2.out _))))
                refine wpQuiet_nil ?_
                intro w2 hw'
                have hb2 := grow_of hw'
                clear hw'
                go_wp2
                go_roundw
                case rel =>
                  refine ⟨1, rfl, by omega, fun i hi => ?_, hb.trans (hb2.mono hzr)⟩
                  obtain rfl : i = 0 := Nat.lt_one_iff.1 hi
                  exact ⟨HGX.out, fun h => absurd h (by omega)⟩
                case measure => simp [intOf]; omega
              | succ j =>
                obtain ⟨l0, l1, l2, l3⟩ := HC.out wr hb j (by omega)
                obtain ⟨Y, hY⟩ : ∃ Y, Y = gp xs j := ⟨_, rfl⟩
                rw [← hY] at l0 l1 l2 l3
                have hl0 := fun x => (grow_cell (w := wr) b (o + j * 4) hbv x).trans l0
                have hl1 := fun x => (grow_cell (w := wr) b (o + j * 4 + 1) hbv x).trans l1
                clear l0 l1 l2 l3
                have hgY := (HS.out j (by omega)).1
                rw [← hY] at hgY
                have hL := fun W => less_pt Y X W hgY.1 hg1'
                have hdec : Hid (pa Y < pa X ↔ pa (gp xs j) < pa (gp xs (j + 1))) := by show _ ↔ _; rw [hX, hY]
                obtain ⟨d, hd⟩ : ∃ d, d = decide (pa Y < pa X) := ⟨_, rfl⟩
                rw [← hd] at hL
                have HD : Hid (d = true ↔ pa (gp xs j) < pa (gp xs (j + 1))) := by show _ ↔ _; rw [hd, decide_eq_true_eq]; exact hdec.out
                have HNN : Hid (d = false → gwB xs = false) := fun hd => gwB_f fun hh => by
                  have := HD.out.2 (hh.2.2.2.2.1 j hlt)
                  rw [hd] at this
                  cases this
                have HG1 := Lib.hid hG1; have HG2 := Lib.hid hG2; clear hG1 hG2 hg1 hg2 hX hg1' hY hgY hdec hd
                obtain ⟨t, p, u, q⟩ := X
                obtain ⟨t', p', u', q'⟩ := Y
                have HL := Lib.hid hL; clear hL
                have hw : IntKind.i64.wrap ((j : Int) + 1 - 1) = (j : Int) := by rw [IntKind.wrap_i64]; omega
                cases d
                · have HN := Lib.hid (HNN.out rfl)
                  simp only at hk0 hk1 hk2 hk3 HG1 HG2 hl0 hl1 HL
                  go_wp2
                  refine wp_region_inv (Below wr.heap.size wr) (grow0 _) (by kernel_rfl) (by kernel_rfl) ?_
                  repeat (go_big_quiet_step (first
                    | (go_at_call 20; with_reducible exact grow_step (HG1.out _))
                    | (go_at_call 20; with_reducible exact grow_step (HG2.out _))
                    | (go_at_call 43; with_reducible exact grow_step (HL.out _))))
                  refine wpQuiet_nil ?_
                  intro w2 hw'
                  have hb2 := grow_of hw'
                  clear hw'
                  go_wp2
                  go_ret
                  exact ⟨ret_bool HN.out.symm, hb.trans (hb2.mono hzr)⟩
                · simp only at hk0 hk1 hk2 hk3 HG1 HG2 hl0 hl1 HL
                  go_wp2
                  refine wp_region_inv (Below wr.heap.size wr) (grow0 _) (by kernel_rfl) (by kernel_rfl) ?_
                  repeat (go_big_quiet_step (first
                    | (go_at_call 20; with_reducible exact grow_step (HG1.out _))
                    | (go_at_call 20; with_reducible exact grow_step (HG2.out _))
                    | (go_at_call 43; with_reducible exact grow_step (HL.out _))))
                  refine wpQuiet_nil ?_
                  intro w2 hw'
                  have hb2 := grow_of hw'
                  clear hw'
                  go_wp2
                  go_roundw
                  case rel =>
                    refine ⟨j + 1 + 1, by go_num, by omega, fun i hi => ?_, hb.trans (hb2.mono hzr)⟩
                    by_cases hij : i = j + 1
                    · subst hij
                      exact ⟨HGX.out, fun _ => HD.out.1 (by simp)⟩
                    · exact HS.out i (by omega)
                  case measure => simp [intOf]; omega
        · obtain rfl : k = xs.length := by omega
          have hlast : Hid (∀ i, i < xs.length → gPt (gp xs i)) := fun i hi => (HS.out i hi).1
          have hrise : Hid (∀ i, i + 1 < xs.length → pa (gp xs i) < pa (gp xs (i + 1))) := fun i hi => (HS.out (i + 1) hi).2 (by omega)
          go_wp2
          go_loopw [4] (fun i wr => ∃ k : Nat, i = .int .i64 ((k : Int) + 1) ∧ k + 1 ≤ xs.length ∧ (∀ j, j < k → slk xs j ≠ 2 ∧ slk xs j ≠ nxt xs j) ∧ Below w.heap.size w wr) (fun i _ => xs.length - (intOf i).toNat)
          case atStart => exact ⟨0, rfl, by omega, fun j hj => absurd hj (by omega), hb⟩
          case round =>
            clear hb hzr hk hlt
            obtain ⟨k, rfl, hk, hu, hb⟩ := hrel
            have HU := Lib.hid hu; clear hu
            have hzr := hb.size
            by_cases hlt : k + 1 < xs.length
            · have hbv : b < wr.heap.size := by omega
              have hgX := hlast.out k (by omega)
              have hgY := hlast.out (k + 1) hlt
              have hSX := fun W => slope_pt (gp xs k) (gp xs (k + 1)) W hgX hgY
              obtain ⟨D, hD⟩ : ∃ D, D = slk xs k := ⟨_, rfl⟩
              rw [show slp (pa (gp xs (k + 1)) - pa (gp xs k)) (pv (gp xs (k + 1)) - pv (gp xs k)) = D from hD.symm] at hSX
              have HDK := Lib.hid hD; clear hD
              have hw : IntKind.i64.wrap ((k : Int) + 1 - 1) = (k : Int) := by rw [IntKind.wrap_i64]; omega
              have hcs : ∀ w', Below wr.heap.size wr w' → C4 w' b (o + k * 4) (gp xs k) ∧ C4 w' b (o + (k + 1) * 4) (gp xs (k + 1)) := fun w' hb' => ⟨HC.out w' (hb.trans (hb'.mono hzr)) k (by omega), HC.out w' (hb.trans (hb'.mono hzr)) (k + 1) hlt⟩
              obtain ⟨X, hX⟩ : ∃ X, X = gp xs k := ⟨_, rfl⟩
              obtain ⟨Y, hY⟩ : ∃ Y, Y = gp xs (k + 1) := ⟨_, rfl⟩
              rw [← hX, ← hY] at hSX hcs
              have hgY' := hgY
              rw [← hY] at hgY'
              have HSX := Lib.hid hSX; have HCS := Lib.hid hcs
              clear hSX hcs hX hgX hgY
              obtain ⟨l0, l1, l2, l3⟩ := (HCS.out _ (Below.refl _ wr)).2
              by_cases hlt2 : k + 2 < xs.length
              · have hgZ := hlast.out (k + 2) hlt2
                obtain ⟨Z, hZ⟩ : ∃ Z, Z = gp xs (k + 2) := ⟨_, rfl⟩
                obtain ⟨z0, z1, z2, z3⟩ := HC.out wr hb (k + 2) hlt2
                rw [← hZ] at z0 z1 z2 z3 hgZ
                have hSZ := fun W => slope_pt Y Z W hgY' hgZ
                obtain ⟨D2, hD2⟩ : ∃ D2, D2 = nxt xs k := ⟨_, rfl⟩
                have e2 : slp (pa Z - pa Y) (pv Z - pv Y) = D2 := by rw [hD2, nxt, if_pos hlt2, slk, hY, hZ]
                rw [e2] at hSZ
                have HSZ := Lib.hid hSZ
                have HNX : Hid (D2 = nxt xs k) := hD2
                clear hSZ e2 hD2 hgZ hZ hY hgY'
                obtain ⟨t, p, u, q⟩ := X
                obtain ⟨t', p', u', q'⟩ := Y
                obtain ⟨t2, p2, u2', q2⟩ := Z
                have hl0 := fun x => (grow_cell (w := wr) b (o + (k + 1) * 4) hbv x).trans l0
                have hl1 := fun x => (grow_cell (w := wr) b (o + (k + 1) * 4 + 1) hbv x).trans l1
                have hl2 := fun x => (grow_cell (w := wr) b (o + (k + 1) * 4 + 2) hbv x).trans l2
                have hl3 := fun x => (grow_cell (w := wr) b (o + (k + 1) * 4 + 3) hbv x).trans l3
                have hz0 := fun x => (grow_cell (w := wr) b (o + (k + 2) * 4) hbv x).trans z0
                have hz1 := fun x => (grow_cell (w := wr) b (o + (k + 2) * 4 + 1) hbv x).trans z1
                have hz2 := fun x => (grow_cell (w := wr) b (o + (k + 2) * 4 + 2) hbv x).trans z2
                have hz3 := fun x => (grow_cell (w := wr) b (o + (k + 2) * 4 + 3) hbv x).trans z3
                clear l0 l1 l2 l3 z0 z1 z2 z3
                simp only at hl0 hl1 hl2 hl3 hz0 hz1 hz2 hz3 HSX HSZ HCS
                have hw2 : IntKind.i64.wrap ((k : Int) + 1 + 1) = (k : Int) + 2 := by rw [IntKind.wrap_i64]; omega
                go_wp2
                refine wp_region_inv (Below wr.heap.size wr) (grow0 _) (by kernel_rfl) (by kernel_rfl) ?_
                repeat (go_big_quiet_step ((go_at_call 44; with_reducible exact grow_step (HSZ.out _))))
                refine wpQuiet_nil ?_
                intro w2 hw'
                have hb2 := grow_of hw'
                clear hw'
                clear hl0 hl1 hl2 hl3 hz0 hz1 hz2 hz3
                have g2 := hb.trans (hb2.mono hzr)
                have hz2' := hb2.size
                have hbv2 : b < w2.heap.size := by omega
                obtain ⟨⟨x0, x1, x2, x3⟩, ⟨y0, y1, y2, y3⟩⟩ := HCS.out w2 hb2
                simp only at x0 x1 x2 x3 y0 y1 y2 y3
                have hx0 := fun x => (grow_cell (w := w2) b (o + k * 4) hbv2 x).trans x0
                have hx1 := fun x => (grow_cell (w := w2) b (o + k * 4 + 1) hbv2 x).trans x1
                have hx2 := fun x => (grow_cell (w := w2) b (o + k * 4 + 2) hbv2 x).trans x2
                have hx3 := fun x => (grow_cell (w := w2) b (o + k * 4 + 3) hbv2 x).trans x3
                have hy0 := fun x => (grow_cell (w := w2) b (o + (k + 1) * 4) hbv2 x).trans y0
                have hy1 := fun x => (grow_cell (w := w2) b (o + (k + 1) * 4 + 1) hbv2 x).trans y1
                have hy2 := fun x => (grow_cell (w := w2) b (o + (k + 1) * 4 + 2) hbv2 x).trans y2
                have hy3 := fun x => (grow_cell (w := w2) b (o + (k + 1) * 4 + 3) hbv2 x).trans y3
                clear x0 x1 x2 x3 y0 y1 y2 y3
                go_wp2
                refine wp_region_inv (Below w2.heap.size w2) (grow0 _) (by kernel_rfl) (by kernel_rfl) ?_
                repeat (go_big_quiet_step ((go_at_call 44; with_reducible exact grow_step (HSX.out _))))
                refine wpQuiet_nil ?_
                intro w3 hw'
                have hb3 := grow_of hw'
                clear hw'
                clear hx0 hx1 hx2 hx3 hy0 hy1 hy2 hy3
                have g3 := g2.trans (hb3.mono (by omega))
                by_cases htwo : D = 2
                · have HN : Hid (gwB xs = false) := gwB_f fun hh => (hh.2.2.2.2.2 k hlt).1 (HDK.out.symm.trans htwo)
                  subst htwo
                  go_wp2
                  go_ret
                  exact ⟨ret_bool HN.out.symm, g3⟩
                · have hb1 : (D == 2) = false := by simpa using htwo
                  by_cases hDL : D = D2
                  · have HN : Hid (gwB xs = false) := gwB_f fun hh => (hh.2.2.2.2.2 k hlt).2 (by rw [← HDK.out, ← HNX.out]; exact hDL)
                    subst hDL
                    go_wp2
                    go_ret
                    exact ⟨ret_bool HN.out.symm, g3⟩
                  · have hb2' : (D == D2) = false := by simpa using hDL
                    have HNE : Hid (¬ D = D2) := hDL
                    have HTW : Hid (¬ D = 2) := htwo
                    clear hDL htwo
                    go_wp2
                    go_roundw
                    case rel =>
                      refine ⟨k + 1, by go_num, by omega, fun i hi => ?_, g3⟩
                      by_cases hik : i = k
                      · subst hik
                        exact ⟨by rw [← HDK.out]; exact HTW.out, by rw [← HDK.out, ← HNX.out]; exact HNE.out⟩
                      · exact HU.out i (by omega)
                    case measure => simp [intOf]; omega
              · have HNX : Hid (0 = nxt xs k) := by show 0 = nxt xs k; rw [nxt, if_neg hlt2]
                obtain ⟨t, p, u, q⟩ := X
                obtain ⟨t', p', u', q'⟩ := Y
                have hb2 := Below.refl wr.heap.size wr
                clear l0 l1 l2 l3
                simp only at HSX HCS
                have hn2 : ¬ (k : Int) + 2 < (xs.length : Int) := by omega
                clear hY hgY'
                go_wp2
                have g2 := hb.trans (hb2.mono hzr)
                have hz2' := hb2.size
                have hbv2 : b < wr.heap.size := by omega
                obtain ⟨⟨x0, x1, x2, x3⟩, ⟨y0, y1, y2, y3⟩⟩ := HCS.out wr hb2
                simp only at x0 x1 x2 x3 y0 y1 y2 y3
                have hx0 := fun x => (grow_cell (w := wr) b (o + k * 4) hbv2 x).trans x0
                have hx1 := fun x => (grow_cell (w := wr) b (o + k * 4 + 1) hbv2 x).trans x1
                have hx2 := fun x => (grow_cell (w := wr) b (o + k * 4 + 2) hbv2 x).trans x2
                have hx3 := fun x => (grow_cell (w := wr) b (o + k * 4 + 3) hbv2 x).trans x3
                have hy0 := fun x => (grow_cell (w := wr) b (o + (k + 1) * 4) hbv2 x).trans y0
                have hy1 := fun x => (grow_cell (w := wr) b (o + (k + 1) * 4 + 1) hbv2 x).trans y1
                have hy2 := fun x => (grow_cell (w := wr) b (o + (k + 1) * 4 + 2) hbv2 x).trans y2
                have hy3 := fun x => (grow_cell (w := wr) b (o + (k + 1) * 4 + 3) hbv2 x).trans y3
                clear x0 x1 x2 x3 y0 y1 y2 y3
                go_wp2
                refine wp_region_inv (Below wr.heap.size wr) (grow0 _) (by kernel_rfl) (by kernel_rfl) ?_
                repeat (go_big_quiet_step ((go_at_call 44; with_reducible exact grow_step (HSX.out _))))
                refine wpQuiet_nil ?_
                intro w3 hw'
                have hb3 := grow_of hw'
                clear hw'
                clear hx0 hx1 hx2 hx3 hy0 hy1 hy2 hy3
                have g3 := g2.trans (hb3.mono (by omega))
                by_cases htwo : D = 2
                · have HN : Hid (gwB xs = false) := gwB_f fun hh => (hh.2.2.2.2.2 k hlt).1 (HDK.out.symm.trans htwo)
                  subst htwo
                  go_wp2
                  go_ret
                  exact ⟨ret_bool HN.out.symm, g3⟩
                · have hb1 : (D == 2) = false := by simpa using htwo
                  by_cases hDL : D = 0
                  · have HN : Hid (gwB xs = false) := gwB_f fun hh => (hh.2.2.2.2.2 k hlt).2 (by rw [← HDK.out, ← HNX.out]; exact hDL)
                    subst hDL
                    go_wp2
                    go_ret
                    exact ⟨ret_bool HN.out.symm, g3⟩
                  · have hb2' : (D == 0) = false := by simpa using hDL
                    have HNE : Hid (¬ D = 0) := hDL
                    have HTW : Hid (¬ D = 2) := htwo
                    clear hDL htwo
                    go_wp2
                    go_roundw
                    case rel =>
                      refine ⟨k + 1, by go_num, by omega, fun i hi => ?_, g3⟩
                      by_cases hik : i = k
                      · subst hik
                        exact ⟨by rw [← HDK.out]; exact HTW.out, by rw [← HDK.out, ← HNX.out]; exact HNE.out⟩
                      · exact HU.out i (by omega)
                    case measure => simp [intOf]; omega
            · have HN : Hid (gwB xs = true) := gwB_t ⟨hn1, hn2, HA.out, hlast.out, hrise.out, fun i hi => HU.out i (by omega)⟩
              go_wp2
              go_ret
              exact ⟨ret_bool HN.out.symm, hb⟩
    · have HN : Hid (gwB xs = false) := gwB_f (fun hh => hat hh.2.2.1)
      obtain ⟨T, hT⟩ : ∃ T, T = (gp xs 0).t := ⟨_, rfl⟩
      obtain ⟨Q, hQ⟩ : ∃ Q, Q = (gp xs 0).p := ⟨_, rfl⟩
      rw [← hT, ← hQ] at hat
      rw [← hT] at c0
      rw [← hQ] at c1
      clear hT hQ HC
      by_cases hT0 : T = 0
      · have hQ0 : ¬ Q = 0 := fun e => hat ⟨hT0, e⟩
        subst hT0
        clear hat
        go_enter Try.func19, Try.ntmps19
        go_wp2_with (go_at_call 37; refine (HI.out _).mono ?_; rintro e w1 ⟨rfl, rfl⟩)
        go_ret
        exact ⟨ret_bool HN.out.symm, Below.refl _ _⟩
      · clear hat
        go_enter Try.func19, Try.ntmps19
        go_wp2_with (go_at_call 37; refine (HI.out _).mono ?_; rintro e w1 ⟨rfl, rfl⟩)
        go_ret
        exact ⟨ret_bool HN.out.symm, Below.refl _ _⟩
  · have HN : Hid (gwB xs = false) := gwB_f (fun hh => hn ⟨hh.1, hh.2.1⟩)
    rw [show inB xs.length 1 40 = false by simp [inB]; omega] at hin
    have HI := Lib.hid hin; clear hin hn
    go_enter Try.func19, Try.ntmps19
    go_wp2_with (go_at_call 37; refine (HI.out _).mono ?_; rintro e w1 ⟨rfl, rfl⟩)
    go_ret
    exact ⟨ret_bool HN.out.symm, Below.refl _ _⟩
end Go.Proofs.Ytidfbbegjpfjpaa
