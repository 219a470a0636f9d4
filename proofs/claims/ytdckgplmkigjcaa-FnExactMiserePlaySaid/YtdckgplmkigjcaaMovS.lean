/- The reference's losing positions that a move reaches, by its contract. Conditions: none. -/
import Derived.Test.YtdckgplmkigjcaaMisV
namespace Go.Proofs.Ytdckgplmkigjcaa
open Go.RowKit
set_option linter.unusedVariables false

theorem Mov.below {w w' : World} {lo : Nat} {v : Value} {b : Nat} {P : List Int → Prop} (h : Mov w lo v b P) (hb : Below w.heap.size w w') : Mov w' lo v b P := by
  obtain ⟨xss, A, c, h1, h2, r⟩ := h
  exact ⟨xss, A, c, h1, (h2.below hb (Nat.le_refl _)).more hb.size, r⟩
theorem Mov.tw {w w' : World} {lo x y : Nat} {v : Value} {b : Nat} {P : List Int → Prop} (h : Mov w lo v b P) (ht : Tw w w' x y) (hx : x < lo) (hy : y < lo) : Mov w' lo v b P := by
  obtain ⟨xss, A, c, h1, h2, r⟩ := h
  exact ⟨xss, A, c, h1, (h2.tw ht (Nat.le_refl _) (.inl hx) (.inl hy)).more ht.size, r⟩

set_option maxRecDepth 100000 in
set_option maxHeartbeats 3200000 in
theorem movesB_any (cs : List Int) (hg : goodCode cs) (Ac : Option Addr) (cc B0 g gk gv : Nat) (hk0 : B0 ≤ gk) (hv0 : B0 ≤ gv) (p : List Int) (w : World) (A : Option Addr) (c : Nat) (ks vs : List Int) (hp : Hp 20 p) (hM : BookM w g gk gv Ac cc cs ks vs) (hcode : RdI w B0 Ac cc cs) (hr : RdI w w.heap.size A c p) (hne : ∀ a, A = some a → a.block ≠ gk ∧ a.block ≠ gv) :
    Calls Try.prog 57 #[.pointer (some ⟨g, 0, none⟩), .slice A p.length c] w fun e w' =>
      (∃ v, e = .returned v ∧ Mov w' w.heap.size v 200000 (fun q => optP cs p q ∧ mz cs q = 0)) ∧ (∃ ks' vs', BookM w' g gk gv Ac cc cs ks' vs') ∧ Tw w w' gk gv := by
  have HP := Lib.hid hp; have HNE := Lib.hid hne
  have hlen := hp.len
  obtain ⟨hgl, hgkl, hgvl⟩ := hM.lt
  have hrl := hr.len
  have hrm := hr.max
  have HR := Lib.hid hr; have HCODE := Lib.hid hcode; have HG := Lib.hid hg
  have hM2 := hM.below (bel1 w (.cells #[] 22))
  have hT2 := Tw.of_below (a := gk) (b := gv) (bel1 w (.cells #[] 22))
  have hm2 : Mov (w.alloc (.cells #[] 22)) w.heap.size (.slice (some ⟨w.heap.size, 0, none⟩) 0 0) (0 * 10000) (fun q => optU cs p 0 q ∧ mz cs q = 0) :=
    ⟨[], some ⟨w.heap.size, 0, none⟩, 0, rfl, ⟨[], Rd.of_lit (cs := []) (Blk.new w 22 #[]) (by simp) (by simp), fun a ha => by injection ha with ha; subst ha; exact Nat.le_refl _, RowsAt.nil⟩, List.Pairwise.nil, by simp, fun xs => ⟨fun h => (by cases h), fun h => absurd h.1 (optU_zero cs p xs)⟩⟩
  clear hM hr hcode hp hne hg
  go_enter Try.func57, Try.ntmps57
  go_wp2
  generalize w.alloc (.cells #[] 22) = w2 at *
  go_loopw [5, 6] (fun v s wr => ∃ n : Nat, s = .int .i64 n ∧ n ≤ p.length ∧ Mov wr w.heap.size v (n * 10000) (fun q => optU cs p n q ∧ mz cs q = 0) ∧ (∃ ks vs, BookM wr g gk gv Ac cc cs ks vs) ∧ Tw w wr gk gv) (fun _ s _ => p.length - (intOf s).toNat)
  case atStart => exact ⟨0, rfl, by omega, hm2, ⟨ks, vs, hM2⟩, hT2⟩
  case round =>
    clear hM2 hT2 hm2
    obtain ⟨n, rfl, hn, hm, ⟨ks, vs, hM⟩, hT⟩ := hrel
    have HM := Lib.hid hm; clear hm
    have hzr := hT.size
    by_cases hlt : n < p.length
    · have hx20 := HP.out.le (gi_mem hlt)
      have q0 : wr.cell? ⟨g, 0, none⟩ = some (.slice Ac cs.length cc) := hM.1.cell 0
      have hrp := HR.out.tw hT (Nat.le_refl _) HNE.out
      obtain ⟨b, o, hbo, hbB, hc⟩ := hrp.at (j := n) hlt
      have hcn := hc n hlt
      subst hbo
      obtain ⟨x, hx⟩ := Int.eq_ofNat_of_zero_le (show 0 ≤ gi p n by omega)
      rw [hx] at hcn
      have hxx : x ≤ 20 := by omega
      have HXN : Hid ((gi p n).toNat = x) := Lib.hid (by omega)
      have HMVS := Lib.hid (moves_any Ac cc cs x wr.drew wr.heap.size (Nat.le_refl _) ((HCODE.out.twLow hT (Nat.le_trans hk0 (Nat.le_of_lt hgkl)) hk0 hv0).more (by omega) |>.below (gdrew (a := wr)) (Nat.le_refl _)) (by omega) HG.out)
      have HBM := Lib.hid hM; have HT := Lib.hid hT
      clear hc hx hx20 hrp hM hT
      go_wp2
      refine wp_region_tail 8 (by kernel_rfl) (by kernel_rfl) ?_
      simp only [List.take_succ_cons, List.take_zero, List.drop_succ_cons, List.drop_zero]
      repeat (go_big_quiet_step (fail))
      refine wpQuiet_nil ?_
      go_wp2_with (go_at_call 58; (with_reducible refine (HMVS.out).mono ?_); rintro e w1 ⟨⟨v1, rfl, M, AM, cM, rfl, hrM, hsM, hlM, hmM⟩, hbM⟩)
      have g1 := gtr (gdrew (a := wr)) hbM
      have hm1 := (HM.out.below g1).congr (b' := n * 10000 + 0) (by omega) (fun q => and_congr (reaP_zero cs p n M q) Iff.rfl)
      have hM1 := HBM.out.below g1
      have hT1 := HT.out.below' g1
      have hz1a := g1.size
      obtain ⟨lo1, hlo1⟩ : ∃ lo1, lo1 = wr.heap.size := ⟨_, rfl⟩
      obtain ⟨B1, hB1⟩ : ∃ B1, B1 = w1.heap.size := ⟨_, rfl⟩
      have hrM1 : RdR w1 lo1 B1 AM cM M := by rw [hlo1, hB1]; exact hrM
      have hwl : w.heap.size ≤ lo1 := by omega
      have hB1w : B1 ≤ w1.heap.size := by omega
      have HMM := Lib.hid hmM; have HLM := Lib.hid hlM
      have HEND := Lib.hid (reaP_end cs p n hlt M (by rw [HXN.out]; exact HMM.out))
      clear hrM hsM hlM hmM hbM g1 HM HBM HT q0 hcn hlo1 hB1 hz1a hzr
      go_wp2
      go_loopw [5, 8] (fun v s wi => ∃ j : Nat, s = .int .i64 j ∧ j ≤ M.length ∧ Mov wi w.heap.size v (n * 10000 + j) (fun q => reaP cs p n M j q ∧ mz cs q = 0) ∧ (∃ ks vs, BookM wi g gk gv Ac cc cs ks vs) ∧ Tw w wi gk gv ∧ RdR wi lo1 B1 AM cM M ∧ B1 ≤ wi.heap.size) (fun _ s _ => M.length - (intOf s).toNat)
      case atStart => exact ⟨0, rfl, by omega, hm1, ⟨ks, vs, hM1⟩, hT1, hrM1, hB1w⟩
      case round =>
        clear hm1 hM1 hT1 hrM1 hB1w
        obtain ⟨j, rfl, hj, hm, ⟨ks, vs, hM⟩, hT, hrM, hBw⟩ := hrel
        obtain ⟨wi, rfl⟩ : ∃ wi, wi = wr := ⟨_, rfl⟩
        have hLM := HLM.out
        have hzi := hT.size
        obtain ⟨xss, A1, c1, rfl, hrd, hso, hxl, hmem⟩ := hm
        have HSo := Lib.hid hso; have HMem := Lib.hid hmem; have HRD := Lib.hid hrd
        clear hso hmem hrd
        by_cases hlt2 : j < M.length
        · obtain ⟨bM, oM, rfl, hbM, hcM⟩ := hrM.at (j := j) hlt2
          obtain ⟨Aj, cj, hcj, hrj⟩ := hcM j hlt2
          clear hcM
          have hmv : isMv cs (gi p n).toNat (gl M j) := by rw [HXN.out]; exact (HMM.out _).1 (by rw [gl_lt hlt2]; exact List.getElem_mem hlt2)
          have hpos := isMv_pos hmv
          have hp2 := hp_aft HP.out hlt hmv
          have hp0 := hp_aft0 HP.out hlt hmv
          have HSUCC := Lib.hid (reaP_succ cs p n M j)
          obtain ⟨mv, hmvn⟩ : ∃ mv, mv = gl M j := ⟨_, rfl⟩
          rw [← hmvn] at hmv hpos hp2 hp0 hcj hrj HSUCC
          clear hmvn
          have hca := afterS_any (some ⟨b, o, none⟩) Aj c cj n p mv wi wi.heap.size (Nat.le_refl _) ((HR.out.tw hT (Nat.le_refl _) HNE.out).more hzi) (hrj.more hBw) hlt (by omega) (by omega) hp0.1
          have HCA := Lib.hid hca; have HP2 := Lib.hid hp2.1
          have HBM := Lib.hid hM; have HT := Lib.hid hT; have HRM := Lib.hid hrM
          clear hca hp2 hp0 hpos hmv hrj hM hT hrM
          go_wp2_with fail
          ((with_reducible refine (HCA.out).mono ?_); rintro e w3 ⟨A3, c3, rfl, ho3, hb3⟩)
          have hM3 := HBM.out.below hb3
          have hz3 := hb3.size
          have hT3 := HT.out.below' hb3
          have hcall := valS cs HG.out Ac cc B0 g gk gv hk0 hv0 (aft p n mv) w3 A3 c3 ks vs HP2.out hM3 (HCODE.out.twLow hT3 (Nat.le_trans hk0 (Nat.le_of_lt hgkl)) hk0 hv0) (ho3.rd rfl) (fun a ha => by subst ha; have := (ho3.lt a.block rfl).1; exact ⟨by omega, by omega⟩)
          obtain ⟨q, hq⟩ : ∃ q, q = aft p n mv := ⟨_, rfl⟩
          rw [← hq] at hcall HSUCC ho3 ⊢
          obtain ⟨u, hu⟩ : ∃ u, u = mz cs q := ⟨_, rfl⟩
          rw [← hu] at hcall
          have HU := Lib.hid hu
          have HCALL := Lib.hid hcall
          have HRD3 := Lib.hid ((HRD.out.below hb3 (Nat.le_refl _)).more hz3)
          have HRM3 := Lib.hid (HRM.out.below hb3 hBw)
          have HT3 := Lib.hid hT3; have HO3 := Lib.hid ho3
          clear hcall hM3 ho3 hT3 hb3 hu hq
          go_wp2_with fail
          ((with_reducible refine (HCALL.out).mono ?_); rintro e w4 ⟨rfl, ⟨ks4, vs4, hM4⟩, hT4⟩)
          have hz4 := hT4.size
          have HRD4 := Lib.hid ((HRD3.out.tw hT4 (Nat.le_refl _) (.inl (by omega)) (.inl (by omega))).more hz4)
          have HRM4 := Lib.hid (HRM3.out.tw hT4 (by omega) (.inl (by omega)) (.inl (by omega)))
          have HT4 := Lib.hid (HT3.out.trans hT4)
          have HM4 := Lib.hid hM4
          have hlo3 := Lo.ownI HO3.out
          have HX4 := Lib.hid ((((HO3.out.rd rfl).tw hT4 (Nat.le_refl _) (fun a ha => by have := hlo3 a ha; exact ⟨by omega, by omega⟩))).more hz4)
          have HLO3 := Lib.hid (hlo3.le hzi)
          clear hM4 hT4 hlo3
          by_cases hu0 : u = 0
          · have ht : ((u : Int) == 0) = true := by simp [hu0]
            have HU0 := Lib.hid hu0
            clear hu0
            go_wp2_with fail
            ((with_reducible refine (put_any A1 A3 c1 c3 xss q w4 w.heap.size w4.heap.size (Nat.le_refl _) HRD4.out HX4.out (by omega) HLO3.out (by omega)).mono ?_); rintro e w5 ⟨A5, c5, rfl, hr5, hb5⟩)
            have hz5 := hb5.size
            have HR5 := Lib.hid hr5; have HB5 := Lib.hid hb5
            clear hr5 hb5
            go_wp2
            go_roundw
            case rel =>
              refine ⟨j + 1, by go_num, by omega, ⟨_, A5, c5, rfl, HR5.out, sorted_putL HSo.out, by have := len_putL xss q; omega, fun ys => ?_⟩, ⟨ks4, vs4, HM4.out.below HB5.out⟩, HT4.out.below' HB5.out, HRM4.out.below HB5.out (by omega), by omega⟩
              show _ ↔ (reaP cs p n M (j + 1) ys ∧ mz cs ys = 0)
              rw [mem_putL, HMem.out, ← HSUCC.out]
              constructor
              · rintro (⟨h1, h2⟩ | rfl)
                · exact ⟨.inl h1, h2⟩
                · exact ⟨.inr rfl, by rw [← HU.out, HU0.out]⟩
              · rintro ⟨h1 | h1, h2⟩
                · exact .inl ⟨h1, h2⟩
                · exact .inr h1
            case measure => simp [intOf]; omega
          · have ht : ((u : Int) == 0) = false := by simp; omega
            have HU0 := Lib.hid hu0
            clear hu0
            go_wp2
            go_roundw
            case rel =>
              refine ⟨j + 1, by go_num, by omega, ⟨xss, A1, c1, rfl, HRD4.out, HSo.out, by omega, fun ys => ?_⟩, ⟨ks4, vs4, HM4.out⟩, HT4.out, HRM4.out, by omega⟩
              show _ ↔ (reaP cs p n M (j + 1) ys ∧ mz cs ys = 0)
              rw [HMem.out, ← HSUCC.out]
              constructor
              · rintro ⟨h1, h2⟩; exact ⟨.inl h1, h2⟩
              · rintro ⟨h1 | h1, h2⟩
                · exact ⟨h1, h2⟩
                · rw [h1, ← HU.out] at h2; exact absurd h2 HU0.out
            case measure => simp [intOf]; omega
        · obtain rfl : j = M.length := by omega
          have HBM := Lib.hid hM; have HT := Lib.hid hT
          have HMV : Hid (Mov wi w.heap.size (.slice A1 xss.length c1) ((n + 1) * 10000) (fun q => optU cs p (n + 1) q ∧ mz cs q = 0)) := Lib.hid ⟨xss, A1, c1, rfl, HRD.out, HSo.out, by omega, fun ys => (HMem.out ys).trans (and_congr (HEND.out ys) Iff.rfl)⟩
          clear hM hT hrM
          go_wp2
          go_roundw
          case rel => exact ⟨n + 1, by go_num, by omega, HMV.out, ⟨ks, vs, HBM.out⟩, HT.out⟩
          case measure => simp [intOf]; omega
    · obtain rfl : n = p.length := by omega
      have HMV := Lib.hid (HM.out.congr (b' := 200000) (by omega) (fun q => and_congr (optU_end cs p q) (Iff.rfl (a := mz cs q = 0))))
      have HBM := Lib.hid hM
      clear HM hM
      go_wp2
      go_ret
      exact ⟨⟨_, rfl, HMV.out⟩, ⟨ks, vs, HBM.out⟩, hT⟩
end Go.Proofs.Ytdckgplmkigjcaa
