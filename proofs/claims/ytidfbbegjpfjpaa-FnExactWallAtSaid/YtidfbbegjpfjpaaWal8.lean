/- The number of a wall by the reference: contract. Conditions: none. -/
import Derived.Test.YtidfbbegjpfjpaaWal7
namespace Go.Proofs.Ytidfbbegjpfjpaa
open Go.RowKit
set_option linter.unusedVariables false

/-- The reference's number at k. -/
def v24 (xs : List Pt) (t : Int) (P k : Nat) : Int := valK xs (sc20 t P) k * 16
theorem sc_16 (t : Int) (P : Nat) (h : P ≤ 20) : sc t P = sc20 t P * 16 := sc_sc20 t P h
theorem v24_low (V : Int) : lowV (nf (V * 16)) = lowV (nrm 20 V) := by
  have := nf_sc V 20 (by omega)
  unfold sc at this
  rw [← this]
  rfl
/-- A dyadic number is handed back. -/
def RetD (xs : List Pt) (t : Int) (P : Nat) (w : World) (e : Ending) (w' : World) : Prop :=
  ∃ (k : Nat) (a : Int) (b : Nat), IsK xs (sc20 t P) k ∧ nf (v24 xs t P k) = (a, b) ∧ e = .returned (.agg #[.int .i64 a, .int .i64 b]) ∧ Below w.heap.size w w'

set_option maxRecDepth 100000 in
set_option maxHeartbeats 3200000 in
theorem atS_any (A : Option Addr) (c : Nat) (xs : List Pt) (t : Int) (P : Nat) (w : World) (B : Nat) (hB : B ≤ w.heap.size) (h : RdP w B A c xs) (hw : GoodW xs) (hg : goodDyB t P = true) (ht : 0 ≤ t) :
    Calls Try.prog 22 #[.slice A xs.length c, .agg #[.int .i64 t, .int .i64 P]] w (RetD xs t P w) := by
  have h1 := h.len
  have h2 := h.max
  have hn := hw.2.1
  have hn1 := hw.1
  have hg' := hg
  rw [goodDyB, decide_eq_true_eq] at hg'
  obtain ⟨b, o, rfl, hbB, hc⟩ := h.at (j := 0) hw.1
  have hbw : b < w.heap.size := by omega
  have HC : Hid (∀ w', Below w.heap.size w w' → ∀ i, i < xs.length → C4 w' b (o + i * 4) (gp xs i)) := fun w' hb i hi => (hc i hi).keep fun p hp => hb.cell (by rw [hp]; omega)
  have HLS : Hid (∀ i, i < xs.length → ∀ W, Calls Try.prog 43 #[.agg #[.int .i64 t, .int .i64 P], .agg #[.int .i64 (gp xs i).t, .int .i64 (gp xs i).p]] W fun e w' => e = .returned (.bool (decide (sc20 t P < a20 (gp xs i)))) ∧ Below W.heap.size W w') := fun i hi W => by
    have hgi := hw.2.2.2.1 i hi
    have := less_pt ⟨t, P, 0, 0⟩ (gp xs i) W hg hgi.1
    have e1 : (pa ⟨t, P, 0, 0⟩ < pa (gp xs i)) ↔ (sc20 t P < a20 (gp xs i)) := by
      rw [pa_a20 hgi, show pa ⟨t, P, 0, 0⟩ = sc t P from rfl, sc_16 t P (by omega)]; omega
    simp only [e1] at this
    exact this
  clear hc h
  go_enter Try.func22, Try.ntmps22
  go_wp2
  have hB2 := box2 w 26 26 #[.int .i64 t, .int .i64 P] #[.int .i64 0, .int .i64 0]
  generalize (w.alloc (.cells #[.int .i64 t, .int .i64 P] 26)).alloc (.cells #[.int .i64 0, .int .i64 0] 26) = W at *
  obtain ⟨b1, b2, hbW, hzW⟩ := hB2
  have hwn : IntKind.i64.wrap ((xs.length : Int) - 1) = ((xs.length - 1 : Nat) : Int) := by rw [IntKind.wrap_i64]; omega
  have HS : Hid (∀ w', Below W.heap.size W w' → Blk w' w.heap.size 26 #[.int .i64 t, .int .i64 P] ∧ Blk w' (w.heap.size + 1) 26 #[.int .i64 0, .int .i64 0] ∧ (∀ i, i < xs.length → C4 w' b (o + i * 4) (gp xs i)) ∧ Below w.heap.size w w') := fun w' hh =>
    ⟨b1.below hh (by omega), b2.below hh (by omega), HC.out w' (hbW.trans (hh.mono (by omega))), hbW.trans (hh.mono (by omega))⟩
  clear b1 b2 hbW HC
  generalize hT : sc20 t P = T at *
  go_loopw [5] (fun i wr => ∃ k : Nat, i = .int .i64 k ∧ k < xs.length ∧ (k + 1 = xs.length ∨ T < a20 (gp xs (k + 1))) ∧ Below W.heap.size W wr) (fun i _ => (intOf i).toNat)
  case atStart => exact ⟨xs.length - 1, by congr 1; omega, by omega, .inl (by omega), Below.refl _ _⟩
  case round =>
    obtain ⟨k, rfl, hk, hup, hb⟩ := hrel
    have HUP := Lib.hid hup; clear hup
    have hzr := hb.size
    by_cases hk0 : k = 0
    · have HI : Hid (IsK xs T k) := ⟨hk, .inl hk0, HUP.out⟩
      have hk1 : ¬ (0 : Int) < (k : Int) := by omega
      have hk2 : ¬ 0 < k := by omega
      clear HUP hk0
      go_wp2
      refine wp_region_inv (Below wr.heap.size wr) (grow0 _) (by kernel_rfl) (by kernel_rfl) ?_
      repeat (go_big_quiet_step (fail))
      refine wpQuiet_nil ?_
      intro w2 hw'
      have hb2 := grow_of hw'
      clear hw'
      have hb3 := hb.trans (hb2.mono hzr)
      obtain ⟨s1, s2, s3, s4⟩ := HS.out w2 hb3
      have hgX := hw.2.2.2.1 k hk
      have HVV : Hid (valK xs T k = v20 (gp xs k) + slB xs k * (T - a20 (gp xs k))) := rfl
      have HPV : Hid (pv (gp xs k) = v20 (gp xs k) * 16) := pv_v20 hgX
      have HPA : Hid (pa (gp xs k) = a20 (gp xs k) * 16) := pa_a20 hgX
      by_cases hlast : k + 1 = xs.length
      · obtain ⟨-, -, k2, k3⟩ := s3 k hk
        have hgu := hgX.2
        obtain ⟨q, hq⟩ : ∃ q : Nat, (gp xs k).q = q := ⟨(gp xs k).q.toNat, by rw [goodDyB, decide_eq_true_eq] at hgu; omega⟩
        have HNF : Hid (nf (v24 xs t P k) = ((gp xs k).u, q)) := by
          show nf (v24 xs t P k) = _
          have e0 : slB xs k = 0 := by unfold slB; rw [if_pos hlast]
          rw [v24, hT, HVV.out, e0, Int.zero_mul, Int.add_zero, ← HPV.out, pv, hq, Int.toNat_natCast]
          rw [goodDyB, decide_eq_true_eq, hq] at hgu
          rw [nf_sc _ _ (by omega), nrm_fix _ _ (by omega)]
        rw [hq] at k3
        have hbe : ((k : Int) == (xs.length : Int) - 1) = true := by simp; omega
        have HLA := Lib.hid hlast
        clear hlast
        have r0 : w2.cell? ⟨w.heap.size + 1, 0, none⟩ = some (.int .i64 0) := s2.cell 0
        have r1 : w2.cell? ⟨w.heap.size + 1, 1, none⟩ = some (.int .i64 0) := s2.cell 1
        have rf0 : w2.frozen? ⟨w.heap.size + 1, 0, none⟩ = false := s2.frozen 0
        have rf1 : w2.frozen? ⟨w.heap.size + 1, 1, none⟩ = false := s2.frozen 1
        generalize (gp xs k).u = u at *
        have HB4 := Lib.hid s4
        clear s1 s2 s3 s4 hgu hq hgX
        go_wp2
        exact bodyPost_ret (v := .agg #[.int .i64 u, .int .i64 q]) (by simp [results, Try.results22, go_sem, r0, r1]) rfl ⟨k, u, q, by rw [hT]; exact HI.out, HNF.out, rfl, (HB4.out.setCell (by simp) _).setCell (by simp) _⟩
      · have hlt : k + 1 < xs.length := by omega
        have hgY := hw.2.2.2.1 (k + 1) hlt
        have hSX := fun V => slope_pt (gp xs k) (gp xs (k + 1)) V hgX hgY
        have hslb : slB xs k = slk xs k := by unfold slB; rw [if_neg hlast]
        have hDo := slB_out hw k hk
        obtain ⟨D, hD⟩ : ∃ D, D = slk xs k := ⟨_, rfl⟩
        rw [show slp (pa (gp xs (k + 1)) - pa (gp xs k)) (pv (gp xs (k + 1)) - pv (gp xs k)) = D from hD.symm] at hSX
        rw [hslb, ← hD] at HVV hDo
        have hbe : ((k : Int) == (xs.length : Int) - 1) = false := by simp; omega
        have hlti : (k : Int) + 1 < (xs.length : Int) := by omega
        have hgF := gPt_facts hgX
        have hgu := hgX.2
        have hfa := a20_fits hgX
        have hfv := v20_fits hgX
        rw [goodDyB, decide_eq_true_eq] at hgu
        have HS2 : Hid (∀ w', Below w2.heap.size w2 w' → (C4 w' b (o + k * 4) (gp xs k) ∧ C4 w' b (o + (k + 1) * 4) (gp xs (k + 1))) ∧ Blk w' w.heap.size 26 #[.int .i64 t, .int .i64 P] ∧ Blk w' (w.heap.size + 1) 26 #[.int .i64 0, .int .i64 0] ∧ Below w.heap.size w w') := fun w' hh => by
          obtain ⟨x1, x2, x3, x4⟩ := HS.out w' (hb3.trans (hh.mono hb3.size))
          exact ⟨⟨x3 k hk, x3 (k + 1) hlt⟩, x1, x2, x4⟩
        have HVK : Hid (v24 xs t P k = valK xs T k * 16) := by show v24 xs t P k = _; rw [v24, hT]
        clear s1 s2 s3 s4 hgX hgY hslb hD
        obtain ⟨X, hX⟩ : ∃ X, X = gp xs k := ⟨_, rfl⟩
        obtain ⟨Y, hY⟩ : ∃ Y, Y = gp xs (k + 1) := ⟨_, rfl⟩
        rw [← hX] at HVV HPV HPA hSX hgF hgu hfa hfv HS2
        rw [← hY] at hSX HS2
        clear hX hY
        obtain ⟨tx, px, u, q⟩ := X
        obtain ⟨ty, py, uy, qy⟩ := Y
        simp only at hgF hgu hSX
        obtain ⟨px, rfl⟩ := Int.eq_ofNat_of_zero_le hgF.1.2.2.1
        obtain ⟨q, rfl⟩ := Int.eq_ofNat_of_zero_le hgF.2.2.2.1
        generalize a20 ⟨tx, px, u, q⟩ = aX at *
        generalize v20 ⟨tx, px, u, q⟩ = vX at *
        have hpa' : sc tx px = aX * 16 := HPA.out
        have hpv' : sc u q = vX * 16 := HPV.out
        have hpt' : sc t P = T * 16 := by rw [← hT]; exact sc_16 t P (by omega)
        have hTb := (sc20_fits t P (by omega) (by omega))
        rw [hT] at hTb
        obtain ⟨R, hR⟩ : ∃ R, R = (T - aX) * 16 := ⟨_, rfl⟩
        have hA1 := fun V => l2Add_any t (-tx) P px V (by omega) (by omega) (by unfold Fits; omega) (by rw [sc_neg]; unfold Fits; omega) (by rw [sc_neg]; unfold Fits; omega)
        have eR : sc t P + sc (-tx) px = R := by rw [sc_neg, hpt', hpa', hR]; omega
        rw [eR] at hA1
        have hab := nrm_abs 24 R 40000000000000 (by omega) (by omega)
        have hble := nf_le R
        have hscR := sc_nf R
        rw [show nrm 24 R = nf R from rfl] at hab
        obtain ⟨a, b', hnf⟩ : ∃ a b', nf R = (a, b') := ⟨_, _, rfl⟩
        rw [hnf] at hA1 hab hble hscR
        simp only at hab hble hscR
        have hN1 := fun V => l2Neg_any tx px V (by omega) (by omega)
        have hN2 := fun V => l2Neg_any a b' V (by omega) (by omega)
        have hA2 := fun V => l2Add_any u a q b' V (by omega) hble (by unfold Fits; omega) (by rw [hscR]; unfold Fits; omega) (by rw [hscR]; unfold Fits; omega)
        have hA3 := fun V => l2Add_any u (-a) q b' V (by omega) hble (by unfold Fits; omega) (by rw [sc_neg, hscR]; unfold Fits; omega) (by rw [sc_neg, hscR]; unfold Fits; omega)
        rw [hscR, hpv'] at hA2
        rw [sc_neg, hscR, hpv'] at hA3
        have HN1 := Lib.hid hN1; have HN2 := Lib.hid hN2
        have HA1 : Hid (∀ V, Calls Try.prog 45 #[.agg #[.int .i64 t, .int .i64 P], .agg #[.int .i64 (-tx), .int .i64 px]] V fun e w' => e = .returned (.agg #[.int .i64 a, .int .i64 b']) ∧ Below V.heap.size V w') := hA1
        have HSX := Lib.hid hSX
        have HV0 : Hid (D = 0 → nf (v24 xs t P k) = (u, q)) := fun e => by
          rw [HVK.out, HVV.out, e, Int.zero_mul, Int.add_zero, ← hpv', nf_sc _ _ (by omega), nrm_fix _ _ (by omega)]
        have HV1 : Hid (D = 1 → v24 xs t P k = vX * 16 + R) := fun e => by show v24 xs t P k = _; rw [HVK.out, HVV.out, e, hR]; omega
        have HV2 : Hid (D = -1 → v24 xs t P k = vX * 16 + -R) := fun e => by show v24 xs t P k = _; rw [HVK.out, HVV.out, e, hR]; omega
        obtain ⟨c1, d1, hcd1⟩ : ∃ c d, nf (vX * 16 + R) = (c, d) := ⟨_, _, rfl⟩
        obtain ⟨c2, d2, hcd2⟩ : ∃ c d, nf (vX * 16 + -R) = (c, d) := ⟨_, _, rfl⟩
        rw [hcd1] at hA2
        rw [hcd2] at hA3
        have HA2 : Hid (∀ V, Calls Try.prog 45 #[.agg #[.int .i64 u, .int .i64 q], .agg #[.int .i64 a, .int .i64 b']] V fun e w' => e = .returned (.agg #[.int .i64 c1, .int .i64 d1]) ∧ Below V.heap.size V w') := hA2
        have HA3 : Hid (∀ V, Calls Try.prog 45 #[.agg #[.int .i64 u, .int .i64 q], .agg #[.int .i64 (-a), .int .i64 b']] V fun e w' => e = .returned (.agg #[.int .i64 c2, .int .i64 d2]) ∧ Below V.heap.size V w') := hA3
        have HC1 := Lib.hid hcd1; have HC2 := Lib.hid hcd2
        clear hA1 hA2 hA3 hN1 hN2 hSX hcd1 hcd2 hnf hab hble hscR eR hpa' hpv' hpt' hTb hgF hgu hfa hfv hR HPA HPV HVV HVK hlast
        obtain ⟨⟨⟨k0, k1, k2, k3⟩, -⟩, s1, s2, -⟩ := HS2.out w2 (Below.refl _ _)
        simp only at k0 k1 k2 k3
        have p0 : w2.cell? ⟨w.heap.size, 0, none⟩ = some (.int .i64 t) := s1.cell 0
        have p1 : w2.cell? ⟨w.heap.size, 1, none⟩ = some (.int .i64 P) := s1.cell 1
        clear s1 s2 k2 k3
        have hwz : w.heap.size + 2 ≤ w2.heap.size := by have := hb3.size; omega
        have hbz : b < w2.heap.size := by omega
        have HC6 : Hid (∀ w', Below w2.heap.size w2 w' → w'.cell? ⟨b, o + k * 4, none⟩ = some (.int .i64 tx) ∧ w'.cell? ⟨b, o + k * 4 + 1, none⟩ = some (.int .i64 px) ∧ w'.cell? ⟨w.heap.size, 0, none⟩ = some (.int .i64 t) ∧ w'.cell? ⟨w.heap.size, 1, none⟩ = some (.int .i64 P)) := fun w' hh => by
          obtain ⟨⟨x1, -⟩, x2, -, -⟩ := HS2.out w' hh
          exact ⟨x1.1, x1.2.1, x2.cell 0, x2.cell 1⟩
        have d1 : ¬ w2.heap.size = b := by omega
        have d2 : ¬ w2.heap.size = w.heap.size := by omega
        have hNb : b < w.heap.size := hbw
        go_wp2
        have tok1 : True := trivial; have tok2 : True := trivial
        go_region_held3 (fun w' => w'.cell? ⟨b, o + k * 4, none⟩ = some (.int .i64 tx) ∧ w'.cell? ⟨b, o + k * 4 + 1, none⟩ = some (.int .i64 px) ∧ w'.cell? ⟨w.heap.size, 0, none⟩ = some (.int .i64 t) ∧ w'.cell? ⟨w.heap.size, 1, none⟩ = some (.int .i64 P)) (go_keep)
          (first
            | (have _t := tok1; go_at_call 46; refine (HN1.out _).mono ?_; rintro e v1 ⟨rfl, hc1⟩; (first | (have g1 := gtr (gdrew (a := w2)) hc1) | (have g1 := gtr (gtr (gdrew (a := w2)) ((Below.refl _ _).alloc (Nat.le_refl _) _)) hc1; have x5 := Blk.below (Blk.new w2.drew 26 #[.int .i64 0, .int .i64 0]) hc1 (by simp); have v0 : v1.cell? ⟨w2.heap.size, 0, none⟩ = some (.int .i64 0) := Blk.cell x5 0; have v1' : v1.cell? ⟨w2.heap.size, 1, none⟩ = some (.int .i64 0) := Blk.cell x5 1; have vf0 : v1.frozen? ⟨w2.heap.size, 0, none⟩ = false := Blk.frozen x5 0; have vf1 : v1.frozen? ⟨w2.heap.size, 1, none⟩ = false := Blk.frozen x5 1)); obtain ⟨n0, n1, n2, n3⟩ := HC6.out _ g1; have e1 : ¬ v1.heap.size = b := (by have := g1.size; omega); have e2 : ¬ v1.heap.size = w.heap.size := (by have := g1.size; omega); clear tok1)
            | (have _t := tok2; go_at_call 45; refine (HA1.out _).mono ?_; rintro e v2 ⟨rfl, hc2⟩; (first | (have g2 := gtr g1 hc2; try (have y5 := Blk.below x5 hc2 (by have := hc1.size; simp at this; simp; omega); have z0 : v2.cell? ⟨w2.heap.size, 0, none⟩ = some (.int .i64 0) := Blk.cell y5 0; have z1 : v2.cell? ⟨w2.heap.size, 1, none⟩ = some (.int .i64 0) := Blk.cell y5 1; have zf0 : v2.frozen? ⟨w2.heap.size, 0, none⟩ = false := Blk.frozen y5 0; have zf1 : v2.frozen? ⟨w2.heap.size, 1, none⟩ = false := Blk.frozen y5 1)) | (have g2 := gtr (gtr g1 ((Below.refl _ _).alloc (Nat.le_refl _) _)) hc2; have y5 := Blk.below (Blk.new v1 26 #[.int .i64 0, .int .i64 0]) hc2 (by simp); have z0 : v2.cell? ⟨v1.heap.size, 0, none⟩ = some (.int .i64 0) := Blk.cell y5 0; have z1 : v2.cell? ⟨v1.heap.size, 1, none⟩ = some (.int .i64 0) := Blk.cell y5 1; have zf0 : v2.frozen? ⟨v1.heap.size, 0, none⟩ = false := Blk.frozen y5 0; have zf1 : v2.frozen? ⟨v1.heap.size, 1, none⟩ = false := Blk.frozen y5 1)); obtain ⟨o0, o1, o2, o3⟩ := HC6.out _ g2; have e3 : ¬ v2.heap.size = b := (by have := g2.size; omega); have e4 : ¬ v2.heap.size = w.heap.size := (by have := g2.size; omega); clear tok2))
        all_goals
          clear n0 n1 n2 n3 o0 o1 o2 o3
          (first
            | (have Y : Blk ((v2.setCell ⟨v1.heap.size, 0, none⟩ (.int .i64 a)).setCell ⟨v1.heap.size, 1, none⟩ (.int .i64 b')) v1.heap.size 26 #[.int .i64 a, .int .i64 b'] := (y5.set 0 _).set 1 _
               have g3 : Below w2.heap.size w2 ((v2.setCell ⟨v1.heap.size, 0, none⟩ (.int .i64 a)).setCell ⟨v1.heap.size, 1, none⟩ (.int .i64 b')) := (g2.setCell g1.size _).setCell g1.size _
               generalize (v2.setCell ⟨v1.heap.size, 0, none⟩ (.int .i64 a)).setCell ⟨v1.heap.size, 1, none⟩ (.int .i64 b') = w3 at *
               obtain ⟨G, hGe⟩ : ∃ G, G = v1.heap.size := ⟨_, rfl⟩
               rw [← hGe] at Y ⊢
               have hG : w2.heap.size ≤ G := by (have := g1.size; have := g2.size; omega)
               clear hGe)
            | (have Y : Blk ((v2.setCell ⟨w2.heap.size, 0, none⟩ (.int .i64 a)).setCell ⟨w2.heap.size, 1, none⟩ (.int .i64 b')) w2.heap.size 26 #[.int .i64 a, .int .i64 b'] := (y5.set 0 _).set 1 _
               have g3 : Below w2.heap.size w2 ((v2.setCell ⟨w2.heap.size, 0, none⟩ (.int .i64 a)).setCell ⟨w2.heap.size, 1, none⟩ (.int .i64 b')) := (g2.setCell (Nat.le_refl _) _).setCell (Nat.le_refl _) _
               generalize (v2.setCell ⟨w2.heap.size, 0, none⟩ (.int .i64 a)).setCell ⟨w2.heap.size, 1, none⟩ (.int .i64 b') = w3 at *
               obtain ⟨G, hGe⟩ : ∃ G, G = w2.heap.size := ⟨_, rfl⟩
               rw [← hGe] at Y ⊢
               have hG : w2.heap.size ≤ G := by (have := g1.size; have := g2.size; omega)
               clear hGe)
            | (have Y := Blk.new v2 26 #[.int .i64 a, .int .i64 b']
               have g3 := g2.alloc g2.size (.cells #[.int .i64 a, .int .i64 b'] 26)
               generalize v2.alloc (.cells #[.int .i64 a, .int .i64 b'] 26) = w3 at *
               obtain ⟨G, hGe⟩ : ∃ G, G = v2.heap.size := ⟨_, rfl⟩
               rw [← hGe] at Y ⊢
               have hG : w2.heap.size ≤ G := by (have := g1.size; have := g2.size; omega)
               clear hGe))
          all_goals try clear y5
          clear hc1 hc2 g1 g2 d1 d2 e1 e2 e3 e4 k0 k1 p0 p1
          have hz3 := g3.size
          have hGl := Y.lt
          have HS3 : Hid (∀ w', Below w3.heap.size w3 w' → (C4 w' b (o + k * 4) ⟨tx, px, u, q⟩ ∧ C4 w' b (o + (k + 1) * 4) ⟨ty, py, uy, qy⟩) ∧ Blk w' G 26 #[.int .i64 a, .int .i64 b'] ∧ Blk w' (w.heap.size + 1) 26 #[.int .i64 0, .int .i64 0] ∧ Below w.heap.size w w') := fun w' hh => by
            obtain ⟨x1, -, x3, x4⟩ := HS2.out w' (gtr g3 hh)
            exact ⟨x1, Y.below hh hGl, x3, x4⟩
          obtain ⟨⟨⟨m0, m1, m2, m3⟩, ⟨n0, n1, n2, n3⟩⟩, -, -, -⟩ := HS3.out w3 (Below.refl _ _)
          simp only at m0 m1 m2 m3 n0 n1 n2 n3
          have hbz3 : b < w3.heap.size := by omega
          have hx0 := fun x => (grow_cell (w := w3) b (o + k * 4) hbz3 x).trans m0
          have hx1 := fun x => (grow_cell (w := w3) b (o + k * 4 + 1) hbz3 x).trans m1
          have hx2 := fun x => (grow_cell (w := w3) b (o + k * 4 + 2) hbz3 x).trans m2
          have hx3 := fun x => (grow_cell (w := w3) b (o + k * 4 + 3) hbz3 x).trans m3
          have hy0 := fun x => (grow_cell (w := w3) b (o + (k + 1) * 4) hbz3 x).trans n0
          have hy1 := fun x => (grow_cell (w := w3) b (o + (k + 1) * 4 + 1) hbz3 x).trans n1
          have hy2 := fun x => (grow_cell (w := w3) b (o + (k + 1) * 4 + 2) hbz3 x).trans n2
          have hy3 := fun x => (grow_cell (w := w3) b (o + (k + 1) * 4 + 3) hbz3 x).trans n3
          clear m0 m1 m2 m3 n0 n1 n2 n3 Y g3
          go_wp2
          refine wp_region_inv (Below w3.heap.size w3) (grow0 _) (by kernel_rfl) (by kernel_rfl) ?_
          repeat (go_big_quiet_step ((go_at_call 44; with_reducible exact grow_step (HSX.out _))))
          refine wpQuiet_nil ?_
          intro w4 hw'
          have hb4 := grow_of hw'
          clear hw'
          clear hx0 hx1 hx2 hx3 hy0 hy1 hy2 hy3
          obtain ⟨⟨⟨-, -, k2, k3⟩, -⟩, y1, y2, y3⟩ := HS3.out w4 hb4
          simp only at k2 k3
          have g0 : w4.cell? ⟨G, 0, none⟩ = some (.int .i64 a) := y1.cell 0
          have g1 : w4.cell? ⟨G, 1, none⟩ = some (.int .i64 b') := y1.cell 1
          have r0 : w4.cell? ⟨w.heap.size + 1, 0, none⟩ = some (.int .i64 0) := y2.cell 0
          have r1 : w4.cell? ⟨w.heap.size + 1, 1, none⟩ = some (.int .i64 0) := y2.cell 1
          have rf0 : w4.frozen? ⟨w.heap.size + 1, 0, none⟩ = false := y2.frozen 0
          have rf1 : w4.frozen? ⟨w.heap.size + 1, 1, none⟩ = false := y2.frozen 1
          have HB4 := Lib.hid y3
          have hGw : ¬ G = w.heap.size + 1 := by omega
          have hGw' : ¬ w.heap.size + 1 = G := by omega
          have hbw' : ¬ b = w.heap.size + 1 := by omega
          have hbw2 : ¬ w.heap.size + 1 = b := by omega
          clear y1 y2 y3
          have HS4 : Hid (∀ w', Below w4.heap.size w4 w' → (w'.cell? ⟨b, o + k * 4 + 2, none⟩ = some (.int .i64 u) ∧ w'.cell? ⟨b, o + k * 4 + 3, none⟩ = some (.int .i64 q) ∧ w'.cell? ⟨G, 0, none⟩ = some (.int .i64 a) ∧ w'.cell? ⟨G, 1, none⟩ = some (.int .i64 b')) ∧ Blk w' (w.heap.size + 1) 26 #[.int .i64 0, .int .i64 0] ∧ Below w.heap.size w w') := fun w' hh => by
            obtain ⟨⟨⟨-, -, x1, x2⟩, -⟩, x3, x4, x5⟩ := HS3.out w' (gtr hb4 hh)
            exact ⟨⟨x1, x2, x3.cell 0, x3.cell 1⟩, x4, x5⟩
          have hD3 : D = 0 ∨ D = 1 ∨ D = -1 := by omega
          rcases hD3 with hd | hd | hd
          · have HN0 := Lib.hid (HV0.out hd)
            subst hd
            go_wp2
            exact bodyPost_ret (v := .agg #[.int .i64 u, .int .i64 q]) (by simp [results, Try.results22, go_sem, r0, r1]) rfl ⟨k, u, q, by rw [hT]; exact HI.out, HN0.out, rfl, (HB4.out.setCell (by simp) _).setCell (by simp) _⟩
          · have HN1' : Hid (nf (v24 xs t P k) = (c1, d1)) := by show nf _ = _; rw [HV1.out hd]; exact HC1.out
            subst hd
            go_wp2
            go_region_held3 (fun w' => w'.cell? ⟨b, o + k * 4 + 2, none⟩ = some (.int .i64 u) ∧ w'.cell? ⟨b, o + k * 4 + 3, none⟩ = some (.int .i64 q) ∧ w'.cell? ⟨G, 0, none⟩ = some (.int .i64 a) ∧ w'.cell? ⟨G, 1, none⟩ = some (.int .i64 b')) (go_keep)
              (first
                | (go_at_call 45; refine (HA2.out _).mono ?_; rintro e w5 ⟨rfl, hb5⟩; have g5 := gtr (gdrew (a := w4)) hb5; obtain ⟨⟨i0, i1, i2, i3⟩, i4, i5⟩ := HS4.out _ g5; have s0 : w5.cell? ⟨w.heap.size + 1, 0, none⟩ = some (.int .i64 0) := i4.cell 0; have s1 : w5.cell? ⟨w.heap.size + 1, 1, none⟩ = some (.int .i64 0) := i4.cell 1; have sf0 := i4.frozen 0; have sf1 := i4.frozen 1))
            all_goals
              have HB5 := Lib.hid i5
              clear i0 i1 i2 i3 i4 i5 k2 k3 g0 g1
              go_wp2
              exact bodyPost_ret (v := .agg #[.int .i64 c1, .int .i64 d1]) (by simp [results, Try.results22, go_sem, s0, s1]) rfl ⟨k, c1, _, by rw [hT]; exact HI.out, HN1'.out, rfl, (HB5.out.setCell (by simp) _).setCell (by simp) _⟩
          · have HN1' : Hid (nf (v24 xs t P k) = (c2, d2)) := by show nf _ = _; rw [HV2.out hd]; exact HC2.out
            subst hd
            go_wp2
            have tok1 : True := trivial
            go_region_held3 (fun w' => w'.cell? ⟨b, o + k * 4 + 2, none⟩ = some (.int .i64 u) ∧ w'.cell? ⟨b, o + k * 4 + 3, none⟩ = some (.int .i64 q) ∧ w'.cell? ⟨G, 0, none⟩ = some (.int .i64 a) ∧ w'.cell? ⟨G, 1, none⟩ = some (.int .i64 b')) (go_keep)
              (first
                | (have _t := tok1; go_at_call 46; refine (HN2.out _).mono ?_; rintro e w5 ⟨rfl, hb5⟩; have g5 := gtr (gdrew (a := w4)) hb5; obtain ⟨⟨i0, i1, i2, i3⟩, -, -⟩ := HS4.out _ g5; clear tok1)
                | (go_at_call 45; refine (HA3.out _).mono ?_; rintro e w6 ⟨rfl, hb6⟩; have g6 := gtr g5 hb6; obtain ⟨⟨j0, j1, j2, j3⟩, i4, i5⟩ := HS4.out _ g6; have s0 : w6.cell? ⟨w.heap.size + 1, 0, none⟩ = some (.int .i64 0) := i4.cell 0; have s1 : w6.cell? ⟨w.heap.size + 1, 1, none⟩ = some (.int .i64 0) := i4.cell 1; have sf0 := i4.frozen 0; have sf1 := i4.frozen 1))
            all_goals
              have HB5 := Lib.hid i5
              clear i0 i1 i2 i3 j0 j1 j2 j3 i4 i5 k2 k3 g0 g1
              go_wp2
              exact bodyPost_ret (v := .agg #[.int .i64 c2, .int .i64 d2]) (by simp [results, Try.results22, go_sem, s0, s1]) rfl ⟨k, c2, _, by rw [hT]; exact HI.out, HN1'.out, rfl, (HB5.out.setCell (by simp) _).setCell (by simp) _⟩
    · have hkp : (0 : Int) < (k : Int) := by omega
      have hkn : 0 < k := by omega
      obtain ⟨s1, -, s3, -⟩ := HS.out wr hb
      obtain ⟨k0, k1, -, -⟩ := s3 k hk
      have p0 : wr.cell? ⟨w.heap.size, 0, none⟩ = some (.int .i64 t) := s1.cell 0
      have p1 : wr.cell? ⟨w.heap.size, 1, none⟩ = some (.int .i64 P) := s1.cell 1
      have hls := HLS.out k hk
      obtain ⟨d, hd⟩ : ∃ d, d = decide (T < a20 (gp xs k)) := ⟨_, rfl⟩
      rw [← hd] at hls
      have HD := Lib.hid hd
      obtain ⟨⟨t', p', u', q'⟩, hX⟩ : ∃ X, X = gp xs k := ⟨_, rfl⟩
      rw [← hX] at k0 k1 hls
      simp only at k0 k1 hls
      have HL := Lib.hid hls
      have hbv : b < wr.heap.size := by omega
      have hwv : w.heap.size < wr.heap.size := by omega
      have hp0 := fun x => (grow_cell (w := wr) w.heap.size 0 hwv x).trans p0
      have hp1 := fun x => (grow_cell (w := wr) w.heap.size 1 hwv x).trans p1
      have hk0 := fun x => (grow_cell (w := wr) b (o + k * 4) hbv x).trans k0
      have hk1 := fun x => (grow_cell (w := wr) b (o + k * 4 + 1) hbv x).trans k1
      clear p0 p1 k0 k1 s1 s3 hls hd hX
      cases d
      · have HI : Hid (IsK xs T k) := ⟨hk, .inr (by have := HD.out.symm; rw [decide_eq_false_iff_not] at this; omega), HUP.out⟩
        go_wp2
        refine wp_region_inv (Below wr.heap.size wr) (grow0 _) (by kernel_rfl) (by kernel_rfl) ?_
        repeat (go_big_quiet_step ((go_at_call 43; with_reducible exact grow_step (HL.out _))))
        refine wpQuiet_nil ?_
        intro w2 hw'
        have hb2 := grow_of hw'
        clear hw'
        clear hp0 hp1 hk0 hk1
        have hb3 := hb.trans (hb2.mono hzr)
        obtain ⟨s1, s2, s3, s4⟩ := HS.out w2 hb3
        have hgX := hw.2.2.2.1 k hk
        have HVV : Hid (valK xs T k = v20 (gp xs k) + slB xs k * (T - a20 (gp xs k))) := rfl
        have HPV : Hid (pv (gp xs k) = v20 (gp xs k) * 16) := pv_v20 hgX
        have HPA : Hid (pa (gp xs k) = a20 (gp xs k) * 16) := pa_a20 hgX
        by_cases hlast : k + 1 = xs.length
        · obtain ⟨-, -, k2, k3⟩ := s3 k hk
          have hgu := hgX.2
          obtain ⟨q, hq⟩ : ∃ q : Nat, (gp xs k).q = q := ⟨(gp xs k).q.toNat, by rw [goodDyB, decide_eq_true_eq] at hgu; omega⟩
          have HNF : Hid (nf (v24 xs t P k) = ((gp xs k).u, q)) := by
            show nf (v24 xs t P k) = _
            have e0 : slB xs k = 0 := by unfold slB; rw [if_pos hlast]
            rw [v24, hT, HVV.out, e0, Int.zero_mul, Int.add_zero, ← HPV.out, pv, hq, Int.toNat_natCast]
            rw [goodDyB, decide_eq_true_eq, hq] at hgu
            rw [nf_sc _ _ (by omega), nrm_fix _ _ (by omega)]
          rw [hq] at k3
          have hbe : ((k : Int) == (xs.length : Int) - 1) = true := by simp; omega
          have HLA := Lib.hid hlast
          clear hlast
          have r0 : w2.cell? ⟨w.heap.size + 1, 0, none⟩ = some (.int .i64 0) := s2.cell 0
          have r1 : w2.cell? ⟨w.heap.size + 1, 1, none⟩ = some (.int .i64 0) := s2.cell 1
          have rf0 : w2.frozen? ⟨w.heap.size + 1, 0, none⟩ = false := s2.frozen 0
          have rf1 : w2.frozen? ⟨w.heap.size + 1, 1, none⟩ = false := s2.frozen 1
          generalize (gp xs k).u = u at *
          have HB4 := Lib.hid s4
          clear s1 s2 s3 s4 hgu hq hgX
          go_wp2
          exact bodyPost_ret (v := .agg #[.int .i64 u, .int .i64 q]) (by simp [results, Try.results22, go_sem, r0, r1]) rfl ⟨k, u, q, by rw [hT]; exact HI.out, HNF.out, rfl, (HB4.out.setCell (by simp) _).setCell (by simp) _⟩
        · have hlt : k + 1 < xs.length := by omega
          have hgY := hw.2.2.2.1 (k + 1) hlt
          have hSX := fun V => slope_pt (gp xs k) (gp xs (k + 1)) V hgX hgY
          have hslb : slB xs k = slk xs k := by unfold slB; rw [if_neg hlast]
          have hDo := slB_out hw k hk
          obtain ⟨D, hD⟩ : ∃ D, D = slk xs k := ⟨_, rfl⟩
          rw [show slp (pa (gp xs (k + 1)) - pa (gp xs k)) (pv (gp xs (k + 1)) - pv (gp xs k)) = D from hD.symm] at hSX
          rw [hslb, ← hD] at HVV hDo
          have hbe : ((k : Int) == (xs.length : Int) - 1) = false := by simp; omega
          have hlti : (k : Int) + 1 < (xs.length : Int) := by omega
          have hgF := gPt_facts hgX
          have hgu := hgX.2
          have hfa := a20_fits hgX
          have hfv := v20_fits hgX
          rw [goodDyB, decide_eq_true_eq] at hgu
          have HS2 : Hid (∀ w', Below w2.heap.size w2 w' → (C4 w' b (o + k * 4) (gp xs k) ∧ C4 w' b (o + (k + 1) * 4) (gp xs (k + 1))) ∧ Blk w' w.heap.size 26 #[.int .i64 t, .int .i64 P] ∧ Blk w' (w.heap.size + 1) 26 #[.int .i64 0, .int .i64 0] ∧ Below w.heap.size w w') := fun w' hh => by
            obtain ⟨x1, x2, x3, x4⟩ := HS.out w' (hb3.trans (hh.mono hb3.size))
            exact ⟨⟨x3 k hk, x3 (k + 1) hlt⟩, x1, x2, x4⟩
          have HVK : Hid (v24 xs t P k = valK xs T k * 16) := by show v24 xs t P k = _; rw [v24, hT]
          clear s1 s2 s3 s4 hgX hgY hslb hD
          obtain ⟨X, hX⟩ : ∃ X, X = gp xs k := ⟨_, rfl⟩
          obtain ⟨Y, hY⟩ : ∃ Y, Y = gp xs (k + 1) := ⟨_, rfl⟩
          rw [← hX] at HVV HPV HPA hSX hgF hgu hfa hfv HS2
          rw [← hY] at hSX HS2
          clear hX hY
          obtain ⟨tx, px, u, q⟩ := X
          obtain ⟨ty, py, uy, qy⟩ := Y
          simp only at hgF hgu hSX
          obtain ⟨px, rfl⟩ := Int.eq_ofNat_of_zero_le hgF.1.2.2.1
          obtain ⟨q, rfl⟩ := Int.eq_ofNat_of_zero_le hgF.2.2.2.1
          generalize a20 ⟨tx, px, u, q⟩ = aX at *
          generalize v20 ⟨tx, px, u, q⟩ = vX at *
          have hpa' : sc tx px = aX * 16 := HPA.out
          have hpv' : sc u q = vX * 16 := HPV.out
          have hpt' : sc t P = T * 16 := by rw [← hT]; exact sc_16 t P (by omega)
          have hTb := (sc20_fits t P (by omega) (by omega))
          rw [hT] at hTb
          obtain ⟨R, hR⟩ : ∃ R, R = (T - aX) * 16 := ⟨_, rfl⟩
          have hA1 := fun V => l2Add_any t (-tx) P px V (by omega) (by omega) (by unfold Fits; omega) (by rw [sc_neg]; unfold Fits; omega) (by rw [sc_neg]; unfold Fits; omega)
          have eR : sc t P + sc (-tx) px = R := by rw [sc_neg, hpt', hpa', hR]; omega
          rw [eR] at hA1
          have hab := nrm_abs 24 R 40000000000000 (by omega) (by omega)
          have hble := nf_le R
          have hscR := sc_nf R
          rw [show nrm 24 R = nf R from rfl] at hab
          obtain ⟨a, b', hnf⟩ : ∃ a b', nf R = (a, b') := ⟨_, _, rfl⟩
          rw [hnf] at hA1 hab hble hscR
          simp only at hab hble hscR
          have hN1 := fun V => l2Neg_any tx px V (by omega) (by omega)
          have hN2 := fun V => l2Neg_any a b' V (by omega) (by omega)
          have hA2 := fun V => l2Add_any u a q b' V (by omega) hble (by unfold Fits; omega) (by rw [hscR]; unfold Fits; omega) (by rw [hscR]; unfold Fits; omega)
          have hA3 := fun V => l2Add_any u (-a) q b' V (by omega) hble (by unfold Fits; omega) (by rw [sc_neg, hscR]; unfold Fits; omega) (by rw [sc_neg, hscR]; unfold Fits; omega)
          rw [hscR, hpv'] at hA2
          rw [sc_neg, hscR, hpv'] at hA3
          have HN1 := Lib.hid hN1; have HN2 := Lib.hid hN2
          have HA1 : Hid (∀ V, Calls Try.prog 45 #[.agg #[.int .i64 t, .int .i64 P], .agg #[.int .i64 (-tx), .int .i64 px]] V fun e w' => e = .returned (.agg #[.int .i64 a, .int .i64 b']) ∧ Below V.heap.size V w') := hA1
          have HSX := Lib.hid hSX
          have HV0 : Hid (D = 0 → nf (v24 xs t P k) = (u, q)) := fun e => by
            rw [HVK.out, HVV.out, e, Int.zero_mul, Int.add_zero, ← hpv', nf_sc _ _ (by omega), nrm_fix _ _ (by omega)]
          have HV1 : Hid (D = 1 → v24 xs t P k = vX * 16 + R) := fun e => by show v24 xs t P k = _; rw [HVK.out, HVV.out, e, hR]; omega
          have HV2 : Hid (D = -1 → v24 xs t P k = vX * 16 + -R) := fun e => by show v24 xs t P k = _; rw [HVK.out, HVV.out, e, hR]; omega
          obtain ⟨c1, d1, hcd1⟩ : ∃ c d, nf (vX * 16 + R) = (c, d) := ⟨_, _, rfl⟩
          obtain ⟨c2, d2, hcd2⟩ : ∃ c d, nf (vX * 16 + -R) = (c, d) := ⟨_, _, rfl⟩
          rw [hcd1] at hA2
          rw [hcd2] at hA3
          have HA2 : Hid (∀ V, Calls Try.prog 45 #[.agg #[.int .i64 u, .int .i64 q], .agg #[.int .i64 a, .int .i64 b']] V fun e w' => e = .returned (.agg #[.int .i64 c1, .int .i64 d1]) ∧ Below V.heap.size V w') := hA2
          have HA3 : Hid (∀ V, Calls Try.prog 45 #[.agg #[.int .i64 u, .int .i64 q], .agg #[.int .i64 (-a), .int .i64 b']] V fun e w' => e = .returned (.agg #[.int .i64 c2, .int .i64 d2]) ∧ Below V.heap.size V w') := hA3
          have HC1 := Lib.hid hcd1; have HC2 := Lib.hid hcd2
          clear hA1 hA2 hA3 hN1 hN2 hSX hcd1 hcd2 hnf hab hble hscR eR hpa' hpv' hpt' hTb hgF hgu hfa hfv hR HPA HPV HVV HVK hlast
          obtain ⟨⟨⟨k0, k1, k2, k3⟩, -⟩, s1, s2, -⟩ := HS2.out w2 (Below.refl _ _)
          simp only at k0 k1 k2 k3
          have p0 : w2.cell? ⟨w.heap.size, 0, none⟩ = some (.int .i64 t) := s1.cell 0
          have p1 : w2.cell? ⟨w.heap.size, 1, none⟩ = some (.int .i64 P) := s1.cell 1
          clear s1 s2 k2 k3
          have hwz : w.heap.size + 2 ≤ w2.heap.size := by have := hb3.size; omega
          have hbz : b < w2.heap.size := by omega
          have HC6 : Hid (∀ w', Below w2.heap.size w2 w' → w'.cell? ⟨b, o + k * 4, none⟩ = some (.int .i64 tx) ∧ w'.cell? ⟨b, o + k * 4 + 1, none⟩ = some (.int .i64 px) ∧ w'.cell? ⟨w.heap.size, 0, none⟩ = some (.int .i64 t) ∧ w'.cell? ⟨w.heap.size, 1, none⟩ = some (.int .i64 P)) := fun w' hh => by
            obtain ⟨⟨x1, -⟩, x2, -, -⟩ := HS2.out w' hh
            exact ⟨x1.1, x1.2.1, x2.cell 0, x2.cell 1⟩
          have d1 : ¬ w2.heap.size = b := by omega
          have d2 : ¬ w2.heap.size = w.heap.size := by omega
          have hNb : b < w.heap.size := hbw
          go_wp2
          have tok1 : True := trivial; have tok2 : True := trivial
          go_region_held3 (fun w' => w'.cell? ⟨b, o + k * 4, none⟩ = some (.int .i64 tx) ∧ w'.cell? ⟨b, o + k * 4 + 1, none⟩ = some (.int .i64 px) ∧ w'.cell? ⟨w.heap.size, 0, none⟩ = some (.int .i64 t) ∧ w'.cell? ⟨w.heap.size, 1, none⟩ = some (.int .i64 P)) (go_keep)
            (first
              | (have _t := tok1; go_at_call 46; refine (HN1.out _).mono ?_; rintro e v1 ⟨rfl, hc1⟩; (first | (have g1 := gtr (gdrew (a := w2)) hc1) | (have g1 := gtr (gtr (gdrew (a := w2)) ((Below.refl _ _).alloc (Nat.le_refl _) _)) hc1; have x5 := Blk.below (Blk.new w2.drew 26 #[.int .i64 0, .int .i64 0]) hc1 (by simp); have v0 : v1.cell? ⟨w2.heap.size, 0, none⟩ = some (.int .i64 0) := Blk.cell x5 0; have v1' : v1.cell? ⟨w2.heap.size, 1, none⟩ = some (.int .i64 0) := Blk.cell x5 1; have vf0 : v1.frozen? ⟨w2.heap.size, 0, none⟩ = false := Blk.frozen x5 0; have vf1 : v1.frozen? ⟨w2.heap.size, 1, none⟩ = false := Blk.frozen x5 1)); obtain ⟨n0, n1, n2, n3⟩ := HC6.out _ g1; have e1 : ¬ v1.heap.size = b := (by have := g1.size; omega); have e2 : ¬ v1.heap.size = w.heap.size := (by have := g1.size; omega); clear tok1)
              | (have _t := tok2; go_at_call 45; refine (HA1.out _).mono ?_; rintro e v2 ⟨rfl, hc2⟩; (first | (have g2 := gtr g1 hc2; try (have y5 := Blk.below x5 hc2 (by have := hc1.size; simp at this; simp; omega); have z0 : v2.cell? ⟨w2.heap.size, 0, none⟩ = some (.int .i64 0) := Blk.cell y5 0; have z1 : v2.cell? ⟨w2.heap.size, 1, none⟩ = some (.int .i64 0) := Blk.cell y5 1; have zf0 : v2.frozen? ⟨w2.heap.size, 0, none⟩ = false := Blk.frozen y5 0; have zf1 : v2.frozen? ⟨w2.heap.size, 1, none⟩ = false := Blk.frozen y5 1)) | (have g2 := gtr (gtr g1 ((Below.refl _ _).alloc (Nat.le_refl _) _)) hc2; have y5 := Blk.below (Blk.new v1 26 #[.int .i64 0, .int .i64 0]) hc2 (by simp); have z0 : v2.cell? ⟨v1.heap.size, 0, none⟩ = some (.int .i64 0) := Blk.cell y5 0; have z1 : v2.cell? ⟨v1.heap.size, 1, none⟩ = some (.int .i64 0) := Blk.cell y5 1; have zf0 : v2.frozen? ⟨v1.heap.size, 0, none⟩ = false := Blk.frozen y5 0; have zf1 : v2.frozen? ⟨v1.heap.size, 1, none⟩ = false := Blk.frozen y5 1)); obtain ⟨o0, o1, o2, o3⟩ := HC6.out _ g2; have e3 : ¬ v2.heap.size = b := (by have := g2.size; omega); have e4 : ¬ v2.heap.size = w.heap.size := (by have := g2.size; omega); clear tok2))
          all_goals
            clear n0 n1 n2 n3 o0 o1 o2 o3
            (first
              | (have Y : Blk ((v2.setCell ⟨v1.heap.size, 0, none⟩ (.int .i64 a)).setCell ⟨v1.heap.size, 1, none⟩ (.int .i64 b')) v1.heap.size 26 #[.int .i64 a, .int .i64 b'] := (y5.set 0 _).set 1 _
                 have g3 : Below w2.heap.size w2 ((v2.setCell ⟨v1.heap.size, 0, none⟩ (.int .i64 a)).setCell ⟨v1.heap.size, 1, none⟩ (.int .i64 b')) := (g2.setCell g1.size _).setCell g1.size _
                 generalize (v2.setCell ⟨v1.heap.size, 0, none⟩ (.int .i64 a)).setCell ⟨v1.heap.size, 1, none⟩ (.int .i64 b') = w3 at *
                 obtain ⟨G, hGe⟩ : ∃ G, G = v1.heap.size := ⟨_, rfl⟩
                 rw [← hGe] at Y ⊢
                 have hG : w2.heap.size ≤ G := by (have := g1.size; have := g2.size; omega)
                 clear hGe)
              | (have Y : Blk ((v2.setCell ⟨w2.heap.size, 0, none⟩ (.int .i64 a)).setCell ⟨w2.heap.size, 1, none⟩ (.int .i64 b')) w2.heap.size 26 #[.int .i64 a, .int .i64 b'] := (y5.set 0 _).set 1 _
                 have g3 : Below w2.heap.size w2 ((v2.setCell ⟨w2.heap.size, 0, none⟩ (.int .i64 a)).setCell ⟨w2.heap.size, 1, none⟩ (.int .i64 b')) := (g2.setCell (Nat.le_refl _) _).setCell (Nat.le_refl _) _
                 generalize (v2.setCell ⟨w2.heap.size, 0, none⟩ (.int .i64 a)).setCell ⟨w2.heap.size, 1, none⟩ (.int .i64 b') = w3 at *
                 obtain ⟨G, hGe⟩ : ∃ G, G = w2.heap.size := ⟨_, rfl⟩
                 rw [← hGe] at Y ⊢
                 have hG : w2.heap.size ≤ G := by (have := g1.size; have := g2.size; omega)
                 clear hGe)
              | (have Y := Blk.new v2 26 #[.int .i64 a, .int .i64 b']
                 have g3 := g2.alloc g2.size (.cells #[.int .i64 a, .int .i64 b'] 26)
                 generalize v2.alloc (.cells #[.int .i64 a, .int .i64 b'] 26) = w3 at *
                 obtain ⟨G, hGe⟩ : ∃ G, G = v2.heap.size := ⟨_, rfl⟩
                 rw [← hGe] at Y ⊢
                 have hG : w2.heap.size ≤ G := by (have := g1.size; have := g2.size; omega)
                 clear hGe))
            all_goals try clear y5
            clear hc1 hc2 g1 g2 d1 d2 e1 e2 e3 e4 k0 k1 p0 p1
            have hz3 := g3.size
            have hGl := Y.lt
            have HS3 : Hid (∀ w', Below w3.heap.size w3 w' → (C4 w' b (o + k * 4) ⟨tx, px, u, q⟩ ∧ C4 w' b (o + (k + 1) * 4) ⟨ty, py, uy, qy⟩) ∧ Blk w' G 26 #[.int .i64 a, .int .i64 b'] ∧ Blk w' (w.heap.size + 1) 26 #[.int .i64 0, .int .i64 0] ∧ Below w.heap.size w w') := fun w' hh => by
              obtain ⟨x1, -, x3, x4⟩ := HS2.out w' (gtr g3 hh)
              exact ⟨x1, Y.below hh hGl, x3, x4⟩
            obtain ⟨⟨⟨m0, m1, m2, m3⟩, ⟨n0, n1, n2, n3⟩⟩, -, -, -⟩ := HS3.out w3 (Below.refl _ _)
            simp only at m0 m1 m2 m3 n0 n1 n2 n3
            have hbz3 : b < w3.heap.size := by omega
            have hx0 := fun x => (grow_cell (w := w3) b (o + k * 4) hbz3 x).trans m0
            have hx1 := fun x => (grow_cell (w := w3) b (o + k * 4 + 1) hbz3 x).trans m1
            have hx2 := fun x => (grow_cell (w := w3) b (o + k * 4 + 2) hbz3 x).trans m2
            have hx3 := fun x => (grow_cell (w := w3) b (o + k * 4 + 3) hbz3 x).trans m3
            have hy0 := fun x => (grow_cell (w := w3) b (o + (k + 1) * 4) hbz3 x).trans n0
            have hy1 := fun x => (grow_cell (w := w3) b (o + (k + 1) * 4 + 1) hbz3 x).trans n1
            have hy2 := fun x => (grow_cell (w := w3) b (o + (k + 1) * 4 + 2) hbz3 x).trans n2
            have hy3 := fun x => (grow_cell (w := w3) b (o + (k + 1) * 4 + 3) hbz3 x).trans n3
            clear m0 m1 m2 m3 n0 n1 n2 n3 Y g3
            go_wp2
            refine wp_region_inv (Below w3.heap.size w3) (grow0 _) (by kernel_rfl) (by kernel_rfl) ?_
            repeat (go_big_quiet_step ((go_at_call 44; with_reducible exact grow_step (HSX.out _))))
            refine wpQuiet_nil ?_
            intro w4 hw'
            have hb4 := grow_of hw'
            clear hw'
            clear hx0 hx1 hx2 hx3 hy0 hy1 hy2 hy3
            obtain ⟨⟨⟨-, -, k2, k3⟩, -⟩, y1, y2, y3⟩ := HS3.out w4 hb4
            simp only at k2 k3
            have g0 : w4.cell? ⟨G, 0, none⟩ = some (.int .i64 a) := y1.cell 0
            have g1 : w4.cell? ⟨G, 1, none⟩ = some (.int .i64 b') := y1.cell 1
            have r0 : w4.cell? ⟨w.heap.size + 1, 0, none⟩ = some (.int .i64 0) := y2.cell 0
            have r1 : w4.cell? ⟨w.heap.size + 1, 1, none⟩ = some (.int .i64 0) := y2.cell 1
            have rf0 : w4.frozen? ⟨w.heap.size + 1, 0, none⟩ = false := y2.frozen 0
            have rf1 : w4.frozen? ⟨w.heap.size + 1, 1, none⟩ = false := y2.frozen 1
            have HB4 := Lib.hid y3
            have hGw : ¬ G = w.heap.size + 1 := by omega
            have hGw' : ¬ w.heap.size + 1 = G := by omega
            have hbw' : ¬ b = w.heap.size + 1 := by omega
            have hbw2 : ¬ w.heap.size + 1 = b := by omega
            clear y1 y2 y3
            have HS4 : Hid (∀ w', Below w4.heap.size w4 w' → (w'.cell? ⟨b, o + k * 4 + 2, none⟩ = some (.int .i64 u) ∧ w'.cell? ⟨b, o + k * 4 + 3, none⟩ = some (.int .i64 q) ∧ w'.cell? ⟨G, 0, none⟩ = some (.int .i64 a) ∧ w'.cell? ⟨G, 1, none⟩ = some (.int .i64 b')) ∧ Blk w' (w.heap.size + 1) 26 #[.int .i64 0, .int .i64 0] ∧ Below w.heap.size w w') := fun w' hh => by
              obtain ⟨⟨⟨-, -, x1, x2⟩, -⟩, x3, x4, x5⟩ := HS3.out w' (gtr hb4 hh)
              exact ⟨⟨x1, x2, x3.cell 0, x3.cell 1⟩, x4, x5⟩
            have hD3 : D = 0 ∨ D = 1 ∨ D = -1 := by omega
            rcases hD3 with hd | hd | hd
            · have HN0 := Lib.hid (HV0.out hd)
              subst hd
              go_wp2
              exact bodyPost_ret (v := .agg #[.int .i64 u, .int .i64 q]) (by simp [results, Try.results22, go_sem, r0, r1]) rfl ⟨k, u, q, by rw [hT]; exact HI.out, HN0.out, rfl, (HB4.out.setCell (by simp) _).setCell (by simp) _⟩
            · have HN1' : Hid (nf (v24 xs t P k) = (c1, d1)) := by show nf _ = _; rw [HV1.out hd]; exact HC1.out
              subst hd
              go_wp2
              go_region_held3 (fun w' => w'.cell? ⟨b, o + k * 4 + 2, none⟩ = some (.int .i64 u) ∧ w'.cell? ⟨b, o + k * 4 + 3, none⟩ = some (.int .i64 q) ∧ w'.cell? ⟨G, 0, none⟩ = some (.int .i64 a) ∧ w'.cell? ⟨G, 1, none⟩ = some (.int .i64 b')) (go_keep)
                (first
                  | (go_at_call 45; refine (HA2.out _).mono ?_; rintro e w5 ⟨rfl, hb5⟩; have g5 := gtr (gdrew (a := w4)) hb5; obtain ⟨⟨i0, i1, i2, i3⟩, i4, i5⟩ := HS4.out _ g5; have s0 : w5.cell? ⟨w.heap.size + 1, 0, none⟩ = some (.int .i64 0) := i4.cell 0; have s1 : w5.cell? ⟨w.heap.size + 1, 1, none⟩ = some (.int .i64 0) := i4.cell 1; have sf0 := i4.frozen 0; have sf1 := i4.frozen 1))
              all_goals
                have HB5 := Lib.hid i5
                clear i0 i1 i2 i3 i4 i5 k2 k3 g0 g1
                go_wp2
                exact bodyPost_ret (v := .agg #[.int .i64 c1, .int .i64 d1]) (by simp [results, Try.results22, go_sem, s0, s1]) rfl ⟨k, c1, _, by rw [hT]; exact HI.out, HN1'.out, rfl, (HB5.out.setCell (by simp) _).setCell (by simp) _⟩
            · have HN1' : Hid (nf (v24 xs t P k) = (c2, d2)) := by show nf _ = _; rw [HV2.out hd]; exact HC2.out
              subst hd
              go_wp2
              have tok1 : True := trivial
              go_region_held3 (fun w' => w'.cell? ⟨b, o + k * 4 + 2, none⟩ = some (.int .i64 u) ∧ w'.cell? ⟨b, o + k * 4 + 3, none⟩ = some (.int .i64 q) ∧ w'.cell? ⟨G, 0, none⟩ = some (.int .i64 a) ∧ w'.cell? ⟨G, 1, none⟩ = some (.int .i64 b')) (go_keep)
                (first
                  | (have _t := tok1; go_at_call 46; refine (HN2.out _).mono ?_; rintro e w5 ⟨rfl, hb5⟩; have g5 := gtr (gdrew (a := w4)) hb5; obtain ⟨⟨i0, i1, i2, i3⟩, -, -⟩ := HS4.out _ g5; clear tok1)
                  | (go_at_call 45; refine (HA3.out _).mono ?_; rintro e w6 ⟨rfl, hb6⟩; have g6 := gtr g5 hb6; obtain ⟨⟨j0, j1, j2, j3⟩, i4, i5⟩ := HS4.out _ g6; have s0 : w6.cell? ⟨w.heap.size + 1, 0, none⟩ = some (.int .i64 0) := i4.cell 0; have s1 : w6.cell? ⟨w.heap.size + 1, 1, none⟩ = some (.int .i64 0) := i4.cell 1; have sf0 := i4.frozen 0; have sf1 := i4.frozen 1))
              all_goals
                have HB5 := Lib.hid i5
                clear i0 i1 i2 i3 j0 j1 j2 j3 i4 i5 k2 k3 g0 g1
                go_wp2
                exact bodyPost_ret (v := .agg #[.int .i64 c2, .int .i64 d2]) (by simp [results, Try.results22, go_sem, s0, s1]) rfl ⟨k, c2, _, by rw [hT]; exact HI.out, HN1'.out, rfl, (HB5.out.setCell (by simp) _).setCell (by simp) _⟩
      · go_wp2
        refine wp_region_inv (Below wr.heap.size wr) (grow0 _) (by kernel_rfl) (by kernel_rfl) ?_
        repeat (go_big_quiet_step ((go_at_call 43; with_reducible exact grow_step (HL.out _))))
        refine wpQuiet_nil ?_
        intro w2 hw'
        have hb2 := grow_of hw'
        clear hw'
        have hwj : IntKind.i64.wrap ((k : Int) - 1) = ((k - 1 : Nat) : Int) := by rw [IntKind.wrap_i64]; omega
        clear hp0 hp1 hk0 hk1
        go_wp2
        go_roundw
        case rel => exact ⟨k - 1, by first | rfl | (congr 1; omega), by omega, .inr (by have := HD.out.symm; rw [decide_eq_true_eq] at this; rw [show k - 1 + 1 = k by omega]; exact this), hb.trans (hb2.mono hzr)⟩
        case measure => simp [intOf]; omega
end Go.Proofs.Ytidfbbegjpfjpaa
