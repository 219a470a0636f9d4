/- GoodWall of the program: contract. Conditions: none. -/
import Derived.Test.YtidfbbegjpfjpaaWal2
import Derived.Test.YtidfbbegjpfjpaaSl
namespace Go.Proofs.Ytidfbbegjpfjpaa
open Go.RowKit
set_option linter.unusedVariables false

theorem slp_div {S V : Int} (hS : 0 < S) (h : slp S V ≠ 2) : V.tdiv S = slp S V := by
  unfold slp at h ⊢
  split
  · next e => rw [e, Int.zero_tdiv]
  · split
    · next e => rw [e, Int.tdiv_self (by omega)]
    · split
      · next e => rw [e, Int.neg_tdiv, Int.tdiv_self (by omega)]
      · next e1 e2 e3 => simp [e1, e2, e3] at h
theorem slp_cases {S V : Int} (h : slp S V ≠ 2) : V = 0 ∨ V = S ∨ V = -S := by
  unfold slp at h
  by_cases h1 : V = 0
  · exact .inl h1
  · by_cases h2 : V = S
    · exact .inr (.inl h2)
    · by_cases h3 : V = -S
      · exact .inr (.inr h3)
      · simp [h1, h2, h3] at h
theorem slp_two {S V : Int} (h : slp S V = 2) : V ≠ 0 ∧ V ≠ S ∧ V ≠ -S := by
  unfold slp at h
  refine ⟨fun e => ?_, fun e => ?_, fun e => ?_⟩
  · simp [e] at h
  · by_cases h0 : V = 0
    · simp [h0] at h
    · rw [if_neg h0, if_pos e] at h; omega
  · by_cases h0 : V = 0
    · simp [h0] at h
    · by_cases h1 : V = S
      · rw [if_neg h0, if_pos h1] at h; omega
      · rw [if_neg h0, if_neg h1, if_pos e] at h; omega

set_option maxRecDepth 100000 in
set_option maxHeartbeats 1600000 in
theorem goodWallI_any (A : Option Addr) (c : Nat) (xs : List Pt) (w : World) (B : Nat) (hB : B ≤ w.heap.size) (h : RdP w B A c xs) :
    Calls Try.prog 24 #[.slice A xs.length c] w fun e w' => e = .returned (.bool (gwB xs)) ∧ Below w.heap.size w w' := by
  have h1 := h.len
  have h2 := h.max
  by_cases hn : 1 ≤ xs.length ∧ xs.length ≤ 40
  · obtain ⟨hn1, hn2⟩ := hn
    obtain ⟨b, o, rfl, hbB, hc⟩ := h.at (j := 0) (by omega)
    have HC : Hid (∀ w', Below w.heap.size w w' → ∀ i, i < xs.length → C4 w' b (o + i * 4) (gp xs i)) := fun w' hb i hi => (hc i hi).keep fun p hp => hb.cell (by rw [hp]; omega)
    obtain ⟨c0, c1, _, _⟩ := hc 0 (by omega)
    rw [Nat.zero_mul, Nat.add_zero] at c0 c1
    have hbz : b < w.heap.size := by omega
    clear hc h
    have HX : Hid (gp xs 0 = gp xs 0) := rfl
    by_cases hat : (gp xs 0).t = 0 ∧ (gp xs 0).p = 0
    · obtain ⟨ha, hp⟩ := hat
      rw [ha] at c0
      rw [hp] at c1
      have HA : Hid ((gp xs 0).t = 0 ∧ (gp xs 0).p = 0) := ⟨ha, hp⟩
      clear ha hp
      go_enter Try.func24, Try.ntmps24
      go_wp2
      go_loopw [27] (fun i wr => ∃ k : Nat, i = .int .i64 k ∧ k ≤ xs.length ∧ (∀ j, j < k → gPt (gp xs j)) ∧ Below w.heap.size w wr) (fun i _ => xs.length - (intOf i).toNat)
      case atStart => exact ⟨0, rfl, by omega, fun j hj => absurd hj (by omega), Below.refl _ _⟩
      case round =>
        obtain ⟨k, rfl, hk, hs, hb⟩ := hrel
        have HS := Lib.hid hs; clear hs c0 c1
        have hzr := hb.size
        by_cases hlt : k < xs.length
        · obtain ⟨k0, k1, k2, k3⟩ := HC.out wr hb k hlt
          obtain ⟨X, hX⟩ : ∃ X, X = gp xs k := ⟨_, rfl⟩
          rw [← hX] at k0 k1 k2 k3
          have HXX := Lib.hid hX; clear hX
          obtain ⟨t, p, u, q⟩ := X
          simp only at k0 k1 k2 k3
          have hG1 := fun W => goodDyI_any t p W
          have hG2 := fun W => goodDyI_any u q W
          have HG1 := Lib.hid hG1; have HG2 := Lib.hid hG2; clear hG1 hG2
          have hP := Blk.new wr 53 #[.int .i64 t, .int .i64 p, .int .i64 u, .int .i64 q]
          have hbP := bel1 wr (.cells #[.int .i64 t, .int .i64 p, .int .i64 u, .int .i64 q] 53)
          go_wp2_with fail
          generalize wr.alloc (.cells #[.int .i64 t, .int .i64 p, .int .i64 u, .int .i64 q] 53) = W at *
          ((with_reducible refine (HG1.out _).mono ?_); rintro e w1 ⟨rfl, hb1⟩)
          have hP1 := hP.below hb1 hP.lt
          have g1 := gtr hbP hb1
          have m2 : w1.cell? ⟨wr.heap.size, 2, none⟩ = some (.int .i64 u) := hP1.cell 2
          have m3 : w1.cell? ⟨wr.heap.size, 3, none⟩ = some (.int .i64 q) := hP1.cell 3
          clear k0 k1 k2 k3
          cases hg1 : goodDyB t p
          · have HN : Hid (gwB xs = false) := gwB_f fun hh => by
              have := (hh.2.2.2.1 k hlt).1
              rw [← HXX.out] at this
              rw [show goodDyB t p = true from this] at hg1
              cases hg1
            clear hg1
            go_wp2
            go_ret
            exact ⟨ret_bool HN.out.symm, hb.trans (g1.mono hzr)⟩
          · have HY := Lib.hid hg1; clear hg1
            go_wp2_with fail
            ((with_reducible refine (HG2.out _).mono ?_); rintro e w2 ⟨rfl, hb2⟩)
            have g2 := gtr g1 hb2
            cases hg2 : goodDyB u q
            · have HN : Hid (gwB xs = false) := gwB_f fun hh => by
                have := (hh.2.2.2.1 k hlt).2
                rw [← HXX.out] at this
                rw [show goodDyB u q = true from this] at hg2
                cases hg2
              clear hg2
              go_wp2
              go_ret
              exact ⟨ret_bool HN.out.symm, hb.trans (g2.mono hzr)⟩
            · have HZ := Lib.hid hg2; clear hg2
              go_wp2
              go_roundw
              case rel => exact ⟨k + 1, by go_num, by omega, fun j hj => if hjk : j = k then by rw [hjk, ← HXX.out]; exact ⟨HY.out, HZ.out⟩ else HS.out j (by omega), hb.trans (g2.mono hzr)⟩
              case measure => simp [intOf]; omega
        · obtain rfl : k = xs.length := by omega
          go_wp2
          go_loopw [5, 6] (fun l i wr => ∃ k : Nat, i = .int .i64 k ∧ l = .int .i64 (lst xs k) ∧ k + 1 ≤ xs.length ∧ UpTo xs k ∧ Below w.heap.size w wr) (fun _ i _ => xs.length - (intOf i).toNat)
          case atStart => exact ⟨0, rfl, rfl, by omega, fun j hj => absurd hj (by omega), hb⟩
          case round =>
            clear hb hzr hk hlt
            obtain ⟨k, rfl, rfl, hk, hu, hb⟩ := hrel
            have HU := Lib.hid hu; clear hu
            have hzr := hb.size
            obtain ⟨L, hL⟩ : ∃ L, L = lst xs k := ⟨_, rfl⟩
            rw [← hL]
            have HL := Lib.hid hL; clear hL
            by_cases hlt : k + 1 < xs.length
            · obtain ⟨k0, k1, k2, k3⟩ := HC.out wr hb k (by omega)
              obtain ⟨l0, l1, l2, l3⟩ := HC.out wr hb (k + 1) hlt
              have hgX := HS.out k (by omega)
              have hgY := HS.out (k + 1) hlt
              have hsl := slk_20 hgX hgY
              have hpX := pa_a20 hgX
              have hpY := pa_a20 hgY
              have hX1 := fun W => inParts_pt (gp xs k) W hgX
              have hX2 := fun W => inParts_val (gp xs k) W hgX
              have hY1 := fun W => inParts_pt (gp xs (k + 1)) W hgY
              have hY2 := fun W => inParts_val (gp xs (k + 1)) W hgY
              have f1 := a20_fits hgX; have f2 := a20_fits hgY; have f3 := v20_fits hgX; have f4 := v20_fits hgY
              have HNO : Hid (¬ (pa (gp xs k) < pa (gp xs (k + 1)) ∧ slk xs k ≠ 2 ∧ slk xs k ≠ lst xs k) → ¬ GoodW xs) := goodW_no hlt
              have HST : Hid (pa (gp xs k) < pa (gp xs (k + 1)) ∧ slk xs k ≠ 2 ∧ slk xs k ≠ lst xs k → UpTo xs (k + 1)) := fun hh i hi => if hik : i = k then by rw [hik]; exact hh else HU.out i (by omega)
              have HLS : Hid (lst xs (k + 1) = slk xs k) := by show _ = _; unfold lst; rw [if_neg (by omega)]; rfl
              rw [hpX, hpY, ← HL.out] at HNO HST
              generalize slk xs k = D at *
              generalize a20 (gp xs k) = aX at *
              generalize a20 (gp xs (k + 1)) = aY at *
              generalize v20 (gp xs k) = vX at *
              generalize v20 (gp xs (k + 1)) = vY at *
              obtain ⟨⟨t, p, u, q⟩, hX⟩ : ∃ X, X = gp xs k := ⟨_, rfl⟩
              obtain ⟨⟨t', p', u', q'⟩, hY⟩ : ∃ X, X = gp xs (k + 1) := ⟨_, rfl⟩
              rw [← hX] at k0 k1 k2 k3 hX1 hX2
              rw [← hY] at l0 l1 l2 l3 hY1 hY2
              simp only at k0 k1 k2 k3 l0 l1 l2 l3 hX1 hX2 hY1 hY2
              clear hX hY hgX hgY hpX hpY
              have HX1 := Lib.hid hX1; have HX2 := Lib.hid hX2; have HY1 := Lib.hid hY1; have HY2 := Lib.hid hY2
              clear hX1 hX2 hY1 hY2
              have hbv : b < wr.heap.size := by omega
              have hk0 := fun x => (grow_cell (w := wr) b (o + k * 4) hbv x).trans k0
              have hk1 := fun x => (grow_cell (w := wr) b (o + k * 4 + 1) hbv x).trans k1
              have hk2 := fun x => (grow_cell (w := wr) b (o + k * 4 + 2) hbv x).trans k2
              have hk3 := fun x => (grow_cell (w := wr) b (o + k * 4 + 3) hbv x).trans k3
              have hl0 := fun x => (grow_cell (w := wr) b (o + (k + 1) * 4) hbv x).trans l0
              have hl1 := fun x => (grow_cell (w := wr) b (o + (k + 1) * 4 + 1) hbv x).trans l1
              have hl2 := fun x => (grow_cell (w := wr) b (o + (k + 1) * 4 + 2) hbv x).trans l2
              have hl3 := fun x => (grow_cell (w := wr) b (o + (k + 1) * 4 + 3) hbv x).trans l3
              clear k0 k1 k2 k3 l0 l1 l2 l3
              obtain ⟨S, hS⟩ : ∃ S, S = aY - aX := ⟨_, rfl⟩
              obtain ⟨V, hV⟩ : ∃ V, V = vY - vX := ⟨_, rfl⟩
              have hw1 : IntKind.i64.wrap (aY - aX) = S := by rw [IntKind.wrap_i64]; omega
              have hw2 : IntKind.i64.wrap (vY - vX) = V := by rw [IntKind.wrap_i64]; omega
              rw [← hS, ← hV] at hsl
              have hSb : -2097152000000 ≤ S ∧ S ≤ 2097152000000 := by omega
              have hAX : (aX * 16 < aY * 16) ↔ 0 < S := by omega
              rw [hAX] at HNO HST
              clear hAX hS hV f1 f2 f3 f4
              go_wp2
              refine wp_region_inv (Below wr.heap.size wr) (grow0 _) (by kernel_rfl) (by kernel_rfl) ?_
              repeat (go_big_quiet_step (first
                | (go_at_call 29; with_reducible exact grow_step (HX1.out _))
                | (go_at_call 29; with_reducible exact grow_step (HX2.out _))
                | (go_at_call 29; with_reducible exact grow_step (HY1.out _))
                | (go_at_call 29; with_reducible exact grow_step (HY2.out _))))
              refine wpQuiet_nil ?_
              intro w2 hw'
              have hb2 := grow_of hw'
              clear hw'
              clear hk0 hk1 hk2 hk3 hl0 hl1 hl2 hl3 HX1 HX2 HY1 HY2
              have g2 := hb.trans (hb2.mono hzr)
              by_cases hpos : 0 < S
              · by_cases htwo : D = 2
                · obtain ⟨d1, d2, d3⟩ := slp_two (hsl.symm.trans htwo)
                  have HN : Hid (gwB xs = false) := gwB_f (HNO.out fun hh => hh.2.1 htwo)
                  clear HNO HST hsl htwo
                  go_wp2
                  go_ret
                  exact ⟨ret_bool HN.out.symm, g2⟩
                · have hdv := slp_div (V := V) hpos (by rw [← hsl]; exact htwo)
                  rw [← hsl] at hdv
                  have hDb : -2 ≤ D ∧ D ≤ 2 := by have := slp_out S V; rw [← hsl] at this; omega
                  have hcs : (V = 0 ∧ D = 0) ∨ (V = S ∧ D = 1) ∨ (V = -S ∧ D = -1) := by
                    rcases slp_cases (S := S) (V := V) (by rw [← hsl]; exact htwo) with e | e | e
                    · exact .inl ⟨e, by rw [← hdv, e, Int.zero_tdiv]⟩
                    · exact .inr (.inl ⟨e, by rw [← hdv, e, Int.tdiv_self (by omega)]⟩)
                    · exact .inr (.inr ⟨e, by rw [← hdv, e, Int.neg_tdiv, Int.tdiv_self (by omega)]⟩)
                  have HSL := Lib.hid hsl; clear hsl
                  have HTW : Hid (¬ D = 2) := htwo
                  clear htwo
                  by_cases hDL : D = L
                  · have HN : Hid (gwB xs = false) := gwB_f (HNO.out fun hh => hh.2.2 hDL)
                    subst hDL
                    clear HNO HST
                    rcases hcs with ⟨e, e'⟩ | ⟨e, e'⟩ | ⟨e, e'⟩
                    all_goals
                      subst e
                      subst e'
                      go_wp2
                      go_ret
                      exact ⟨ret_bool HN.out.symm, g2⟩
                  · have HUU : Hid (UpTo xs (k + 1)) := HST.out ⟨hpos, HTW.out, hDL⟩
                    have hbe : (D == L) = false := by simpa using hDL
                    clear HNO HST
                    rcases hcs with ⟨e, e'⟩ | ⟨e, e'⟩ | ⟨e, e'⟩
                    all_goals
                      subst e
                      subst e'
                      go_wp2
                      go_roundw
                      case rel => exact ⟨k + 1, by go_num, by rw [HLS.out], by omega, HUU.out, g2⟩
                      case measure => simp [intOf]; omega
              · have HN : Hid (gwB xs = false) := gwB_f (HNO.out fun hh => hpos hh.1)
                clear HNO HST hsl
                go_wp2
                go_ret
                exact ⟨ret_bool HN.out.symm, g2⟩
            · obtain rfl : k = xs.length - 1 := by omega
              have hfin := goodW_of hn1 hn2 HA.out HS.out HU.out
              rw [← HL.out] at hfin
              by_cases hl0 : L = 0
              · have HN : Hid (gwB xs = false) := gwB_f (fun hh => (hfin.1 hh) hl0)
                subst hl0
                clear hfin
                go_wp2
                go_ret
                exact ⟨ret_bool HN.out.symm, hb⟩
              · have HN : Hid (gwB xs = true) := gwB_t (hfin.2 hl0)
                have hb0 : (L != 0) = true := by simpa using hl0
                clear hfin
                go_wp2
                go_ret
                exact ⟨ret_bool HN.out.symm, hb⟩
    · have HN : Hid (gwB xs = false) := gwB_f (fun hh => hat hh.2.2.1)
      obtain ⟨T, hT⟩ : ∃ T, T = (gp xs 0).t := ⟨_, rfl⟩
      obtain ⟨Q, hQ⟩ : ∃ Q, Q = (gp xs 0).p := ⟨_, rfl⟩
      rw [← hT, ← hQ] at hat
      rw [← hT] at c0
      rw [← hQ] at c1
      clear hT hQ HX HC
      by_cases hT0 : T = 0
      · have hQ0 : ¬ Q = 0 := fun e => hat ⟨hT0, e⟩
        subst hT0
        clear hat
        go_enter Try.func24, Try.ntmps24
        go_wp2
        go_ret
        exact ⟨ret_bool HN.out.symm, Below.refl _ _⟩
      · clear hat
        go_enter Try.func24, Try.ntmps24
        go_wp2
        go_ret
        exact ⟨ret_bool HN.out.symm, Below.refl _ _⟩
  · have HN : Hid (gwB xs = false) := gwB_f (fun hh => hn ⟨hh.1, hh.2.1⟩)
    by_cases hs : xs.length < 1
    · clear hn
      go_enter Try.func24, Try.ntmps24
      go_wp2
      go_ret
      exact ⟨ret_bool HN.out.symm, Below.refl _ _⟩
    · have hbig : 40 < xs.length := by omega
      clear hn
      go_enter Try.func24, Try.ntmps24
      go_wp2
      go_ret
      exact ⟨ret_bool HN.out.symm, Below.refl _ _⟩
end Go.Proofs.Ytidfbbegjpfjpaa
