/- Several texts in one: XValS XGoodM XMisV. Conditions: none. -/
import Derived.Test.YtbledcogbkeneaaBkA
import Derived.Test.YtbledcogbkeneaaMoves3
import Derived.Test.YtbledcogbkeneaaRchA
import Derived.Test.YtbledcogbkeneaaCode
import Derived.Test.YtbledcogbkeneaaSl
namespace Go.Proofs.Ytbledcogbkeneaa
open Go.RowKit
set_option linter.unusedVariables false

theorem BookM.grown {w w' : World} {g gk gv c : Nat} {A : Option Addr} {cs ks vs : List Int} {row : Option Nat} (h : BookM w g gk gv A c cs ks vs) (hg : w.grownBy w' row) (hr : ∀ b, row = some b → b ≠ g ∧ b ≠ gk ∧ b ≠ gv) : BookM w' g gk gv A c cs ks vs := by
  obtain ⟨h1, h2, h3, r⟩ := h
  exact ⟨h1.grown hg fun e => (hr g e.symm).1 rfl, h2.grown hg fun e => (hr gk e.symm).2.1 rfl, h3.grown hg fun e => (hr gv e.symm).2.2 rfl, r⟩
theorem Tw.grown {u w w' : World} {a b : Nat} {row : Option Nat} (h : Tw u w a b) (hg : w.grownBy w' row) (hr : ∀ k, row = some k → u.heap.size ≤ k) : Tw u w' a b :=
  ⟨hg.os.trans h.1, hg.tape.trans h.2.1, hg.output.trans h.2.2.1, Nat.le_trans h.size hg.size, fun k hk ha hb => (hg.block k (by have := h.size; omega) fun e => by have := hr k e.symm; omega).trans (h.2.2.2.2 k hk ha hb)⟩
theorem Tw.below' {u w w' : World} {a b : Nat} (h : Tw u w a b) (hb : Below w.heap.size w w') : Tw u w' a b := h.trans (Tw.of_below hb)

/-- What is known of the options behind j of the moves of heap n. -/
def leftP (cs p : List Int) (n : Nat) (M : List (List Int)) (j : Nat) (x : Int) : Prop := (∃ q, optU cs p n q ∧ x = (mz cs q : Nat)) ∨ ∃ t, t < j ∧ x = (mz cs (aft p n (gl M t)) : Nat)
theorem leftP_zero (cs p : List Int) (n : Nat) (M : List (List Int)) (x : Int) : leftP cs p n M 0 x ↔ ∃ q, optU cs p n q ∧ x = (mz cs q : Nat) :=
  ⟨fun h => h.elim id fun ⟨t, h, _⟩ => absurd h (by omega), .inl⟩
theorem leftP_succ (cs p : List Int) (n : Nat) (M : List (List Int)) (j : Nat) (x : Int) : leftP cs p n M (j + 1) x ↔ leftP cs p n M j x ∨ x = (mz cs (aft p n (gl M j)) : Nat) := by
  constructor
  · rintro (h | ⟨t, h, e⟩)
    · exact .inl (.inl h)
    · by_cases ht : t = j
      · subst ht; exact .inr e
      · exact .inl (.inr ⟨t, by omega, e⟩)
  · rintro ((h | ⟨t, h, e⟩) | e)
    · exact .inl h
    · exact .inr ⟨t, by omega, e⟩
    · exact .inr ⟨j, by omega, e⟩
theorem leftP_end (cs p : List Int) (n : Nat) (hn : n < p.length) (M : List (List Int)) (hM : ∀ x, x ∈ M ↔ isMv cs (gi p n).toNat x) (x : Int) : leftP cs p n M M.length x ↔ ∃ q, optU cs p (n + 1) q ∧ x = (mz cs q : Nat) := by
  constructor
  · rintro (⟨q, h, e⟩ | ⟨t, h, e⟩)
    · exact ⟨q, (optU_succ cs p q n hn).2 (.inl h), e⟩
    · exact ⟨_, (optU_succ cs p _ n hn).2 (.inr ⟨gl M t, (hM _).1 (by rw [gl_lt h]; exact List.getElem_mem h), rfl⟩), e⟩
  · rintro ⟨q, h, e⟩
    rcases (optU_succ cs p q n hn).1 h with h2 | ⟨mv, h2, rfl⟩
    · exact .inl ⟨q, h2, e⟩
    · obtain ⟨t, ht, rfl⟩ := List.getElem_of_mem ((hM mv).2 h2)
      exact .inr ⟨t, ht, by rw [e, gl_lt ht]⟩

set_option maxRecDepth 100000 in
set_option maxHeartbeats 3200000 in
theorem valS_any (cs : List Int) (hg : goodCode cs) (Ac : Option Addr) (cc B0 g gk gv : Nat) (hk0 : B0 ≤ gk) (hv0 : B0 ≤ gv) : ∀ (m : Nat) (p : List Int) (w : World) (A : Option Addr) (c : Nat) (ks vs : List Int), Hp 20 p → sm p < m → BookM w g gk gv Ac cc cs ks vs → RdI w B0 Ac cc cs → RdI w w.heap.size A c p → (∀ a, A = some a → a.block ≠ gk ∧ a.block ≠ gv) →
    Calls Try.prog 49 #[.pointer (some ⟨g, 0, none⟩), .slice A p.length c, .int .i64 0, .int .i64 0] w fun e w' =>
      e = .returned (.int .i64 (mz cs p : Nat)) ∧ (∃ ks' vs', BookM w' g gk gv Ac cc cs ks' vs') ∧ Tw w w' gk gv := by
  intro m
  induction m with
  | zero => intro p w A c ks vs hp hs; have := hp.nonneg; omega
  | succ m ih =>
    intro p w A c ks vs hp hsm hM hcode hr hne
    have HI := Lib.hid ih; clear ih
    have HP := Lib.hid hp; have HNE := Lib.hid hne; have HSM := Lib.hid hsm
    have hlen := hp.len
    have hlt := hM.lt
    obtain ⟨hgl, hgkl, hgvl⟩ := hlt
    have hrl := hr.len
    have hrm := hr.max
    have HR := Lib.hid hr; have HCODE := Lib.hid hcode; have HG := Lib.hid hg
    have hkey := key_any A c p w w.heap.size (Nat.le_refl _) hr hp
    have HKEY := Lib.hid hkey
    have hM' := Lib.hid hM
    clear hkey hM hr hcode hp hne hsm hg
    obtain ⟨K, hK⟩ : ∃ K : Nat, (K : Int) = ky p := ⟨kf p 20, rfl⟩
    rw [← hK] at HKEY
    have hK16 : K ≤ 16094453760 := by have := ky_lt HP.out; omega
    have HK := Lib.hid hK; clear hK
    go_enter Try.func49, Try.ntmps49
    go_wp2_with fail
    ((with_reducible refine (HKEY.out).mono ?_); rintro e w1 ⟨rfl, hb1⟩)
    have hM1 := hM'.out.below hb1
    have hz1 := hb1.size
    go_wp2_with fail
    ((with_reducible refine (slot_any w1 g gk gv cc Ac cs ks vs K hM1 hK16).mono ?_); rintro e w1' ⟨i, rfl, hsl, hw'⟩)
    have hw2 := hw'.symm
    subst hw2
    clear hw'
    have hi := hsl.lt
    have q1 : w1.cell? ⟨g, 1, none⟩ = some (.slice (some ⟨gk, 0, none⟩) 8192 8192) := hM1.1.cell 1
    have q2 : w1.cell? ⟨g, 2, none⟩ = some (.slice (some ⟨gv, 0, none⟩) 8192 8192) := hM1.1.cell 2
    have c1 := hM1.key i hi
    have c2 := hM1.val i hi
    have HT1 := Lib.hid (Tw.of_below (a := gk) (b := gv) hb1)
    have hbk := hM1.2.2.2.1
    by_cases hhit : gi ks i = (K : Int)
    · have hval := slot_hit hbk HP.out hi (by rw [hhit]; exact HK.out)
      rw [hhit] at c1
      rw [hval] at c2
      have HM1 := Lib.hid hM1
      clear hM1 hb1 hsl hbk hval hhit
      go_wp2
      go_ret
      exact ⟨rfl, ⟨ks, vs, HM1.out⟩, HT1.out⟩
    · have ht : (gi ks i == (K : Int)) = false := by simpa using hhit
      clear hbk hhit hsl q2 c2
      go_wp2
      have hM2 := hM1.below (bel1 w1 (.cells #[] 3))
      have HT2 := HT1.out.below' (bel1 w1 (.cells #[] 3))
      have ho2 : Own (w1.alloc (.cells #[] 3)) w.heap.size 3 (.slice (some ⟨w1.heap.size, 0, none⟩) 0 0) (ints []) := Own.empty w1 3 3 _ hz1
      clear hM1 hb1 q1 c1 HT1 ht hi
      generalize w1.alloc (.cells #[] 3) = w2 at *
      go_loopw [11, 12] (fun v s wr => ∃ (n : Nat) (A1 : Option Addr) (c1 : Nat) (xs : List Int), s = .int .i64 n ∧ n ≤ p.length ∧ v = .slice A1 xs.length c1 ∧ Own wr w.heap.size 3 (.slice A1 xs.length c1) (ints xs) ∧ (∀ x : Int, x ∈ xs ↔ ∃ q, optU cs p n q ∧ x = (mz cs q : Nat)) ∧ xs.length ≤ n * 10000 ∧ (∃ ks vs, BookM wr g gk gv Ac cc cs ks vs) ∧ Tw w wr gk gv) (fun _ s _ => p.length - (intOf s).toNat)
      case atStart => exact ⟨0, _, _, [], rfl, by omega, rfl, ho2, fun x => ⟨fun h => absurd h (by simp), fun ⟨q, h, _⟩ => absurd h (optU_zero cs p q)⟩, by simp, ⟨ks, vs, hM2⟩, HT2⟩
      case round =>
        clear hM2 HT2 ho2
        obtain ⟨n, A1, c1, xs, rfl, hn, rfl, ho, hx, hxl, ⟨ks, vs, hM⟩, hT⟩ := hrel
        have HX := Lib.hid hx; clear hx
        have hzr := hT.size
        by_cases hlt : n < p.length
        · have hx20 := HP.out.le (gi_mem hlt)
          have q0 : wr.cell? ⟨g, 0, none⟩ = some (.slice Ac cs.length cc) := hM.1.cell 0
          have hrp := HR.out.tw hT (Nat.le_refl _) HNE.out
          obtain ⟨b, o, rfl, hbB, hc⟩ := hrp.at (j := n) hlt
          have hcn := hc n hlt
          rcases n with _ | k
          · clear hc
            go_wp2
            go_quiet (fail)
            have hd := bdrew (Below.refl wr.heap.size wr) nq
            have hoW := ho.below hd
            have hMW := hM.below hd
            have hTW := hT.below' hd
            have q0W : (wr.drewN nq).cell? ⟨g, 0, none⟩ = some (.slice Ac cs.length cc) := hMW.1.cell 0
            have hrpW := HR.out.tw hTW (Nat.le_refl _) HNE.out
            have hzW := hTW.size
            clear ho hM hT q0 hrp hzr hd
            go_wp2
            generalize wr.drewN nq = wa at *
            obtain ⟨x, hx⟩ := Int.eq_ofNat_of_zero_le (show 0 ≤ gi p (0) by omega)
            obtain ⟨b, o, hbo, hbB, hc⟩ := hrpW.at (j := 0) hlt
            have hcn := hc (0) hlt
            try rw [Nat.add_zero] at hcn
            injection hbo with hbo
            injection hbo with hb1 hb2
            subst hb1 hb2
            rw [hx] at hcn
            clear hc
            have hxx : x ≤ 20 := by omega
            have hxn : (gi p (0)).toNat = x := by omega
            have hmvs := moves_any Ac cc cs x wa.drew wa.heap.size (Nat.le_refl _) ((HCODE.out.twLow hTW (Nat.le_trans hk0 (Nat.le_of_lt hgkl)) hk0 hv0).more (by omega) |>.below (gdrew (a := wa)) (Nat.le_refl _)) (by omega) HG.out
            have HMVS := Lib.hid hmvs
            have HXN := Lib.hid hxn; have HRP := Lib.hid hrpW
            clear hmvs hx hx20 hxn hrpW
            refine wp_region_tail 8 (by kernel_rfl) (by kernel_rfl) ?_
            simp only [List.take_succ_cons, List.take_zero, List.drop_succ_cons, List.drop_zero]
            repeat (go_big_quiet_step (fail))
            refine wpQuiet_nil ?_
            go_wp2_with (go_at_call 63; (with_reducible refine (HMVS.out).mono ?_); rintro e w1 ⟨⟨v, rfl, M, AM, cM, rfl, hrM, hsM, hlM, hmM⟩, hbM⟩)
            have g1 := gtr (gdrew (a := wa)) hbM
            have ho1 := hoW.below g1
            have hM1 := hMW.below g1
            have hT1 := hTW.below' g1
            have hz1a := g1.size
            have hblk1 : ∀ k, (Value.slice A1 xs.length c1).ownBlock = some k → k < wa.heap.size ∨ w1.heap.size ≤ k := fun k hk => .inl (hoW.lt k hk).2
            obtain ⟨lo1, hlo1⟩ : ∃ lo1, lo1 = wa.heap.size := ⟨_, rfl⟩
            obtain ⟨B1, hB1⟩ : ∃ B1, B1 = w1.heap.size := ⟨_, rfl⟩
            have hrM1 : RdR w1 lo1 B1 AM cM M := by rw [hlo1, hB1]; exact hrM
            rw [← hlo1, ← hB1] at hblk1
            have hwl : w.heap.size ≤ lo1 := by omega
            have hlB : lo1 ≤ B1 := by omega
            have hB1w : B1 ≤ w1.heap.size := by omega
            have HMM := Lib.hid hmM; have HLM := Lib.hid hlM
            have HEND : Hid (∀ x : Int, leftP cs p (0) M M.length x ↔ ∃ q, optU cs p (0 + 1) q ∧ x = (mz cs q : Nat)) := leftP_end cs p (0) hlt M (by rw [HXN.out]; exact HMM.out)
            clear hrM hsM hlM hmM hbM g1 hoW hMW hTW q0W hcn hlo1 hB1 hz1a hzW
            go_wp2
            go_loopw [11, 14] (fun v s wi => ∃ (j : Nat) (A2 : Option Addr) (c2 : Nat) (ys : List Int), s = .int .i64 j ∧ j ≤ M.length ∧ v = .slice A2 ys.length c2 ∧ Own wi w.heap.size 3 (.slice A2 ys.length c2) (ints ys) ∧ (∀ x : Int, x ∈ ys ↔ leftP cs p (0) M j x) ∧ ys.length ≤ xs.length + j ∧ (∃ ks vs, BookM wi g gk gv Ac cc cs ks vs) ∧ Tw w wi gk gv ∧ RdR wi lo1 B1 AM cM M ∧ (∀ k, (Value.slice A2 ys.length c2).ownBlock = some k → k < lo1 ∨ B1 ≤ k) ∧ B1 ≤ wi.heap.size) (fun _ s _ => M.length - (intOf s).toNat)
            case atStart => exact ⟨0, A1, c1, xs, rfl, by omega, rfl, ho1, fun x => (HX.out x).trans (leftP_zero cs p (0) M x).symm, by omega, ⟨ks, vs, hM1⟩, hT1, hrM1, hblk1, hB1w⟩
            case round =>
              clear ho1 hM1 hT1 hrM1 hblk1 hB1w
              obtain ⟨j, A2, c2, ys, rfl, hj, rfl, ho, hy, hyl, ⟨ks, vs, hM⟩, hT, hrM, hblk, hBw⟩ := hrel
              obtain ⟨wi, rfl⟩ : ∃ wi, wi = wr := ⟨_, rfl⟩
              have HY := Lib.hid hy; clear hy
              have hLM := HLM.out
              have hzi := hT.size
              by_cases hlt2 : j < M.length
              · obtain ⟨bM, oM, rfl, hbM, hcM⟩ := hrM.at (j := j) hlt2
                obtain ⟨Aj, cj, hcj, hrj⟩ := hcM j hlt2
                clear hcM
                have hmv : isMv cs (gi p (0)).toNat (gl M j) := by rw [HXN.out]; exact (HMM.out _).1 (by rw [gl_lt hlt2]; exact List.getElem_mem hlt2)
                have hpos := isMv_pos hmv
                have hp2 := hp_aft HP.out hlt hmv
                have hp0 := hp_aft0 HP.out hlt hmv
                have hrp := HRP.out
                have HSUCC := Lib.hid (leftP_succ cs p (0) M j)
                obtain ⟨mv, hmvn⟩ : ∃ mv, mv = gl M j := ⟨_, rfl⟩
                rw [← hmvn] at hmv hpos hp2 hp0 hcj hrj HSUCC
                clear hmvn
                have hca := afterS_any (some ⟨b, o, none⟩) Aj c cj (0) p mv wi wi.heap.size (Nat.le_refl _) ((HR.out.tw hT (Nat.le_refl _) HNE.out).more hzi) (hrj.more hBw) hlt (by omega) (by omega) hp0.1
                have eni : (((0) : Nat) : Int) = (0 : Int) := by first | rfl | omega
                rw [eni] at hca
                have HCA := Lib.hid hca
                have HP2 := Lib.hid hp2.1
                have hs2 : sm (aft p (0) mv) < m := by have := HSM.out; omega
                have HS2 := Lib.hid hs2
                have HO := Lib.hid ho; have HM := Lib.hid hM; have HT := Lib.hid hT; have HRM := Lib.hid hrM; have HBLK := Lib.hid hblk
                clear hca eni hp2 hp0 hpos hmv hrj hs2 ho hM hT hrM hblk hrp
                go_wp2_with fail
                ((with_reducible refine (HCA.out).mono ?_); rintro e w3 ⟨A3, c3, rfl, ho3, hb3⟩)
                have hM3 := HM.out.below hb3
                have hz3 := hb3.size
                have hT3 := HT.out.below' hb3
                have hcall := HI.out (aft p (0) mv) w3 A3 c3 ks vs HP2.out HS2.out hM3 (HCODE.out.twLow hT3 (Nat.le_trans hk0 (Nat.le_of_lt hgkl)) hk0 hv0) (ho3.rd rfl) (fun a ha => by subst ha; have := (ho3.lt a.block rfl).1; exact ⟨by omega, by omega⟩)
                have HCALL := Lib.hid hcall
                have HO3 := Lib.hid (HO.out.below hb3)
                have HRM3 := Lib.hid (HRM.out.below hb3 hBw)
                have HT3 := Lib.hid hT3
                clear hcall hM3 ho3 hT3 hb3
                go_wp2_with fail
                ((with_reducible refine (HCALL.out).mono ?_); rintro e w4 ⟨rfl, ⟨ks4, vs4, hM4⟩, hT4⟩)
                obtain ⟨u, hu⟩ : ∃ u, u = mz cs (aft p (0) mv) := ⟨_, rfl⟩
                rw [← hu]
                have HU := Lib.hid hu
                have hz4 := hT4.size
                have HO4 := Lib.hid (HO3.out.tw hT4 fun k hk => by have := (HO3.out.lt k hk).1; omega)
                have HRM4 := Lib.hid (HRM3.out.tw hT4 (by omega) (.inl (by omega)) (.inl (by omega)))
                have HT4 := Lib.hid (HT3.out.trans hT4)
                have HM4 := Lib.hid hM4
                clear hu hM4 hT4
                go_wp2_with (at_builtin; refine append_int_at rfl _ _ rfl w.heap.size (.slice A2 ys.length c2) ys rfl (own_ints.2 (HO4.out.below (bel1 _ _))) w4.heap.size u rfl (Blk.new _ _ _) (by omega) (by simp; omega) ?_; intro A5 c5 w5 ho5 hb5 hg5 hp5)
                have hz5 := hg5.size
                have hza : (w4.alloc (.cells #[.int .i64 u] 3)).heap.size = w4.heap.size + 1 := by simp
                have HO5 := Lib.hid ho5; have HG5 := Lib.hid hg5; have HP5 := Lib.hid hp5
                clear ho5 hb5 hg5 hp5
                go_roundw
                case rel =>
                  have hbase : ∀ k, (Value.slice A2 ys.length c2).ownBlock = some k → w.heap.size ≤ k := fun k hk => (HO4.out.lt k hk).1
                  have ey : (ys ++ [(u : Int)]).length = ys.length + 1 := by simp
                  refine ⟨j + 1, A5, c5, ys ++ [(u : Int)], by go_num, by omega, by rw [ey], by rw [ey]; exact own_ints.1 HO5.out, fun x => ?_, by rw [ey]; omega, ⟨ks4, vs4, (HM4.out.below (bel1 _ _)).grown HG5.out fun k hk => by have := hbase k hk; exact ⟨by omega, by omega, by omega⟩⟩, (HT4.out.below' (bel1 _ _)).grown HG5.out hbase, (HRM4.out.below (bel1 _ _) (by omega)).grown HG5.out (by omega) HBLK.out, fun k hk => ?_, by omega⟩
                  · rw [List.mem_append, HSUCC.out x, HY.out x, List.mem_singleton, HU.out]
                  · rw [ey] at hk
                    rcases HP5.out with e | e
                    · rw [e] at hk; exact HBLK.out k hk
                    · rw [e] at hk; injection hk with hk; omega
                case measure => simp [intOf]; omega
              · obtain rfl : j = M.length := by omega
                have HO := Lib.hid ho; have HM := Lib.hid hM; have HT := Lib.hid hT
                have HYL := Lib.hid (show ys.length ≤ (0 + 1) * 10000 by omega)
                clear ho hM hT hrM hblk
                go_wp2
                go_roundw
                case rel => exact ⟨0 + 1, A2, c2, ys, by go_num, by omega, rfl, HO.out, fun x => (HY.out x).trans (HEND.out x), HYL.out, ⟨ks, vs, HM.out⟩, HT.out⟩
                case measure => simp [intOf]; omega
          · have hcm := hc k (by omega)
            clear hc
            have HXL := Lib.hid (Nat.le_trans hxl (Nat.mul_le_mul_right 10000 (Nat.le_succ (k + 1))))
            have hw2 : IntKind.i64.wrap ((k : Int) + 1 - 1) = k := by rw [IntKind.wrap_i64]; omega
            have hw3 : IntKind.i64.wrap (k : Int) = k := by rw [IntKind.wrap_i64]; omega
            have hk1 : (0 : Int) < (k : Int) + 1 := by omega
            by_cases heq : gi p (k + 1) = gi p k
            · have ht : (gi p (k + 1) == gi p k) = true := by simp [heq]
              have HE := Lib.hid heq; clear heq
              have HO := Lib.hid ho; have HM := Lib.hid hM; have HT := Lib.hid hT
              clear ho hM hT hrp hx20
              go_wp2
              go_quiet (fail)
              clear hw2 hw3
              have HD := Lib.hid (bdrew (Below.refl wr.heap.size wr) nq)
              go_wp2
              go_roundw
              case rel =>
                refine ⟨k + 1 + 1, A1, c1, xs, by go_num, by omega, rfl, HO.out.below HD.out, fun x => ?_, HXL.out, ⟨ks, vs, HM.out.below HD.out⟩, HT.out.below' HD.out⟩
                rw [HX.out x]
                exact exists_congr fun q => and_congr (optU_skip cs p q (k + 1) (by omega) hlt HE.out).symm Iff.rfl
              case measure => simp [intOf]; omega
            · have ht : (gi p (k + 1) == gi p k) = false := by simp [heq]
              have HE := Lib.hid heq; clear heq
              go_wp2
              go_quiet (fail)
              clear hw2 hw3 HXL
              have hd := bdrew (Below.refl wr.heap.size wr) nq
              have hoW := ho.below hd
              have hMW := hM.below hd
              have hTW := hT.below' hd
              have q0W : (wr.drewN nq).cell? ⟨g, 0, none⟩ = some (.slice Ac cs.length cc) := hMW.1.cell 0
              have hrpW := HR.out.tw hTW (Nat.le_refl _) HNE.out
              have hzW := hTW.size
              clear ho hM hT q0 hrp hzr hd
              go_wp2
              generalize wr.drewN nq = wa at *
              obtain ⟨x, hx⟩ := Int.eq_ofNat_of_zero_le (show 0 ≤ gi p (k + 1) by omega)
              obtain ⟨b, o, hbo, hbB, hc⟩ := hrpW.at (j := k + 1) hlt
              have hcn := hc (k + 1) hlt
              try rw [Nat.add_zero] at hcn
              injection hbo with hbo
              injection hbo with hb1 hb2
              subst hb1 hb2
              rw [hx] at hcn
              clear hc
              have hxx : x ≤ 20 := by omega
              have hxn : (gi p (k + 1)).toNat = x := by omega
              have hmvs := moves_any Ac cc cs x wa.drew wa.heap.size (Nat.le_refl _) ((HCODE.out.twLow hTW (Nat.le_trans hk0 (Nat.le_of_lt hgkl)) hk0 hv0).more (by omega) |>.below (gdrew (a := wa)) (Nat.le_refl _)) (by omega) HG.out
              have HMVS := Lib.hid hmvs
              have HXN := Lib.hid hxn; have HRP := Lib.hid hrpW
              clear hmvs hx hx20 hxn hrpW
              refine wp_region_tail 8 (by kernel_rfl) (by kernel_rfl) ?_
              simp only [List.take_succ_cons, List.take_zero, List.drop_succ_cons, List.drop_zero]
              repeat (go_big_quiet_step (fail))
              refine wpQuiet_nil ?_
              go_wp2_with (go_at_call 63; (with_reducible refine (HMVS.out).mono ?_); rintro e w1 ⟨⟨v, rfl, M, AM, cM, rfl, hrM, hsM, hlM, hmM⟩, hbM⟩)
              have g1 := gtr (gdrew (a := wa)) hbM
              have ho1 := hoW.below g1
              have hM1 := hMW.below g1
              have hT1 := hTW.below' g1
              have hz1a := g1.size
              have hblk1 : ∀ k, (Value.slice A1 xs.length c1).ownBlock = some k → k < wa.heap.size ∨ w1.heap.size ≤ k := fun k hk => .inl (hoW.lt k hk).2
              obtain ⟨lo1, hlo1⟩ : ∃ lo1, lo1 = wa.heap.size := ⟨_, rfl⟩
              obtain ⟨B1, hB1⟩ : ∃ B1, B1 = w1.heap.size := ⟨_, rfl⟩
              have hrM1 : RdR w1 lo1 B1 AM cM M := by rw [hlo1, hB1]; exact hrM
              rw [← hlo1, ← hB1] at hblk1
              have hwl : w.heap.size ≤ lo1 := by omega
              have hlB : lo1 ≤ B1 := by omega
              have hB1w : B1 ≤ w1.heap.size := by omega
              have HMM := Lib.hid hmM; have HLM := Lib.hid hlM
              have HEND : Hid (∀ x : Int, leftP cs p (k + 1) M M.length x ↔ ∃ q, optU cs p (k + 1 + 1) q ∧ x = (mz cs q : Nat)) := leftP_end cs p (k + 1) hlt M (by rw [HXN.out]; exact HMM.out)
              clear hrM hsM hlM hmM hbM g1 hoW hMW hTW q0W hcn hlo1 hB1 hz1a hzW
              go_wp2
              go_loopw [11, 14] (fun v s wi => ∃ (j : Nat) (A2 : Option Addr) (c2 : Nat) (ys : List Int), s = .int .i64 j ∧ j ≤ M.length ∧ v = .slice A2 ys.length c2 ∧ Own wi w.heap.size 3 (.slice A2 ys.length c2) (ints ys) ∧ (∀ x : Int, x ∈ ys ↔ leftP cs p (k + 1) M j x) ∧ ys.length ≤ xs.length + j ∧ (∃ ks vs, BookM wi g gk gv Ac cc cs ks vs) ∧ Tw w wi gk gv ∧ RdR wi lo1 B1 AM cM M ∧ (∀ k, (Value.slice A2 ys.length c2).ownBlock = some k → k < lo1 ∨ B1 ≤ k) ∧ B1 ≤ wi.heap.size) (fun _ s _ => M.length - (intOf s).toNat)
              case atStart => exact ⟨0, A1, c1, xs, rfl, by omega, rfl, ho1, fun x => (HX.out x).trans (leftP_zero cs p (k + 1) M x).symm, by omega, ⟨ks, vs, hM1⟩, hT1, hrM1, hblk1, hB1w⟩
              case round =>
                clear ho1 hM1 hT1 hrM1 hblk1 hB1w
                obtain ⟨j, A2, c2, ys, rfl, hj, rfl, ho, hy, hyl, ⟨ks, vs, hM⟩, hT, hrM, hblk, hBw⟩ := hrel
                obtain ⟨wi, rfl⟩ : ∃ wi, wi = wr := ⟨_, rfl⟩
                have HY := Lib.hid hy; clear hy
                have hLM := HLM.out
                have hzi := hT.size
                by_cases hlt2 : j < M.length
                · obtain ⟨bM, oM, rfl, hbM, hcM⟩ := hrM.at (j := j) hlt2
                  obtain ⟨Aj, cj, hcj, hrj⟩ := hcM j hlt2
                  clear hcM
                  have hmv : isMv cs (gi p (k + 1)).toNat (gl M j) := by rw [HXN.out]; exact (HMM.out _).1 (by rw [gl_lt hlt2]; exact List.getElem_mem hlt2)
                  have hpos := isMv_pos hmv
                  have hp2 := hp_aft HP.out hlt hmv
                  have hp0 := hp_aft0 HP.out hlt hmv
                  have hrp := HRP.out
                  have HSUCC := Lib.hid (leftP_succ cs p (k + 1) M j)
                  obtain ⟨mv, hmvn⟩ : ∃ mv, mv = gl M j := ⟨_, rfl⟩
                  rw [← hmvn] at hmv hpos hp2 hp0 hcj hrj HSUCC
                  clear hmvn
                  have hca := afterS_any (some ⟨b, o, none⟩) Aj c cj (k + 1) p mv wi wi.heap.size (Nat.le_refl _) ((HR.out.tw hT (Nat.le_refl _) HNE.out).more hzi) (hrj.more hBw) hlt (by omega) (by omega) hp0.1
                  have eni : (((k + 1) : Nat) : Int) = (k : Int) + 1 := by first | rfl | omega
                  rw [eni] at hca
                  have HCA := Lib.hid hca
                  have HP2 := Lib.hid hp2.1
                  have hs2 : sm (aft p (k + 1) mv) < m := by have := HSM.out; omega
                  have HS2 := Lib.hid hs2
                  have HO := Lib.hid ho; have HM := Lib.hid hM; have HT := Lib.hid hT; have HRM := Lib.hid hrM; have HBLK := Lib.hid hblk
                  clear hca eni hp2 hp0 hpos hmv hrj hs2 ho hM hT hrM hblk hrp
                  go_wp2_with fail
                  ((with_reducible refine (HCA.out).mono ?_); rintro e w3 ⟨A3, c3, rfl, ho3, hb3⟩)
                  have hM3 := HM.out.below hb3
                  have hz3 := hb3.size
                  have hT3 := HT.out.below' hb3
                  have hcall := HI.out (aft p (k + 1) mv) w3 A3 c3 ks vs HP2.out HS2.out hM3 (HCODE.out.twLow hT3 (Nat.le_trans hk0 (Nat.le_of_lt hgkl)) hk0 hv0) (ho3.rd rfl) (fun a ha => by subst ha; have := (ho3.lt a.block rfl).1; exact ⟨by omega, by omega⟩)
                  have HCALL := Lib.hid hcall
                  have HO3 := Lib.hid (HO.out.below hb3)
                  have HRM3 := Lib.hid (HRM.out.below hb3 hBw)
                  have HT3 := Lib.hid hT3
                  clear hcall hM3 ho3 hT3 hb3
                  go_wp2_with fail
                  ((with_reducible refine (HCALL.out).mono ?_); rintro e w4 ⟨rfl, ⟨ks4, vs4, hM4⟩, hT4⟩)
                  obtain ⟨u, hu⟩ : ∃ u, u = mz cs (aft p (k + 1) mv) := ⟨_, rfl⟩
                  rw [← hu]
                  have HU := Lib.hid hu
                  have hz4 := hT4.size
                  have HO4 := Lib.hid (HO3.out.tw hT4 fun k hk => by have := (HO3.out.lt k hk).1; omega)
                  have HRM4 := Lib.hid (HRM3.out.tw hT4 (by omega) (.inl (by omega)) (.inl (by omega)))
                  have HT4 := Lib.hid (HT3.out.trans hT4)
                  have HM4 := Lib.hid hM4
                  clear hu hM4 hT4
                  go_wp2_with (at_builtin; refine append_int_at rfl _ _ rfl w.heap.size (.slice A2 ys.length c2) ys rfl (own_ints.2 (HO4.out.below (bel1 _ _))) w4.heap.size u rfl (Blk.new _ _ _) (by omega) (by simp; omega) ?_; intro A5 c5 w5 ho5 hb5 hg5 hp5)
                  have hz5 := hg5.size
                  have hza : (w4.alloc (.cells #[.int .i64 u] 3)).heap.size = w4.heap.size + 1 := by simp
                  have HO5 := Lib.hid ho5; have HG5 := Lib.hid hg5; have HP5 := Lib.hid hp5
                  clear ho5 hb5 hg5 hp5
                  go_roundw
                  case rel =>
                    have hbase : ∀ k, (Value.slice A2 ys.length c2).ownBlock = some k → w.heap.size ≤ k := fun k hk => (HO4.out.lt k hk).1
                    have ey : (ys ++ [(u : Int)]).length = ys.length + 1 := by simp
                    refine ⟨j + 1, A5, c5, ys ++ [(u : Int)], by go_num, by omega, by rw [ey], by rw [ey]; exact own_ints.1 HO5.out, fun x => ?_, by rw [ey]; omega, ⟨ks4, vs4, (HM4.out.below (bel1 _ _)).grown HG5.out fun k hk => by have := hbase k hk; exact ⟨by omega, by omega, by omega⟩⟩, (HT4.out.below' (bel1 _ _)).grown HG5.out hbase, (HRM4.out.below (bel1 _ _) (by omega)).grown HG5.out (by omega) HBLK.out, fun k hk => ?_, by omega⟩
                    · rw [List.mem_append, HSUCC.out x, HY.out x, List.mem_singleton, HU.out]
                    · rw [ey] at hk
                      rcases HP5.out with e | e
                      · rw [e] at hk; exact HBLK.out k hk
                      · rw [e] at hk; injection hk with hk; omega
                  case measure => simp [intOf]; omega
                · obtain rfl : j = M.length := by omega
                  have HO := Lib.hid ho; have HM := Lib.hid hM; have HT := Lib.hid hT
                  have HYL := Lib.hid (show ys.length ≤ (k + 1 + 1) * 10000 by omega)
                  clear ho hM hT hrM hblk
                  go_wp2
                  go_roundw
                  case rel => exact ⟨k + 1 + 1, A2, c2, ys, by go_num, by omega, rfl, HO.out, fun x => (HY.out x).trans (HEND.out x), HYL.out, ⟨ks, vs, HM.out⟩, HT.out⟩
                  case measure => simp [intOf]; omega
        · obtain rfl : n = p.length := by omega
          have hml := mz_list (xs := xs) HP.out fun x => (HX.out x).trans (exists_congr fun q => and_congr (optU_end cs p q) Iff.rfl)
          by_cases hxs : xs = []
          · have HV : Hid (mz cs p = 1) := hml.1 hxs
            subst hxs
            clear hml ho hxl hlt
            go_wp2_with fail
            ((with_reducible refine (slot_any _ g gk gv cc Ac cs ks vs K hM hK16).mono ?_); rintro e w3 ⟨i, rfl, hsl, hw⟩)
            subst hw
            have hi := hsl.lt
            rw [HK.out] at hsl
            have hMp := hM.put HP.out hsl
            rw [← HK.out, HV.out] at hMp
            have q1 := hM.1.cell 1
            have c1 := hM.key i hi
            have f1 := hM.2.1.frozen i
            have hG2 := hM.1.far (p := ⟨gk, i, none⟩) hM.2.2.2.2.1 (.int .i64 (K : Int))
            have hV2 := hM.2.2.1.far (p := ⟨gk, i, none⟩) (Ne.symm hM.2.2.2.2.2.2) (.int .i64 (K : Int))
            have q2 := hG2.cell 2
            have c2 := (hV2.cell i).trans (arr_gi vs i (by rw [hM.2.2.2.1.2.1]; exact hi))
            have f2 := hV2.frozen i
            have q1 : World.cell? _ ⟨g, 1, none⟩ = some (.slice (some ⟨gk, 0, none⟩) 8192 8192) := q1
            have q2 : World.cell? _ ⟨g, 2, none⟩ = some (.slice (some ⟨gv, 0, none⟩) 8192 8192) := q2
            have HMP := Lib.hid hMp; have HT3 := Lib.hid hT
            clear hMp hG2 hV2 hM hsl hT
            go_wp2
            go_ret
            exact ⟨by rw [HV.out]; rfl, ⟨_, _, HMP.out⟩, HT3.out.trans (Tw.set1.trans Tw.set2)⟩
          · have hpos := List.length_pos_iff.2 hxs
            have HML := Lib.hid (hml.2 hxs)
            have hrx := (own_ints.2 ho).rd rfl
            have HRX := Lib.hid hrx
            clear hml hxs hrx hlt ho
            go_wp2_with fail
            ((with_reducible refine (mexS_any A1 c1 xs wr _ HRX.out (by omega)).mono ?_); rintro e w3 ⟨v, rfl, hv1, hv2, hw⟩)
            subst hw
            have HV : Hid (mz cs p = v) := HML.out v hv1 hv2
            clear hv1 hv2 hpos
            go_wp2_with fail
            ((with_reducible refine (slot_any _ g gk gv cc Ac cs ks vs K hM hK16).mono ?_); rintro e w3 ⟨i, rfl, hsl, hw⟩)
            subst hw
            have hi := hsl.lt
            rw [HK.out] at hsl
            have hMp := hM.put HP.out hsl
            rw [← HK.out, HV.out] at hMp
            have q1 := hM.1.cell 1
            have c1 := hM.key i hi
            have f1 := hM.2.1.frozen i
            have hG2 := hM.1.far (p := ⟨gk, i, none⟩) hM.2.2.2.2.1 (.int .i64 (K : Int))
            have hV2 := hM.2.2.1.far (p := ⟨gk, i, none⟩) (Ne.symm hM.2.2.2.2.2.2) (.int .i64 (K : Int))
            have q2 := hG2.cell 2
            have c2 := (hV2.cell i).trans (arr_gi vs i (by rw [hM.2.2.2.1.2.1]; exact hi))
            have f2 := hV2.frozen i
            have q1 : World.cell? _ ⟨g, 1, none⟩ = some (.slice (some ⟨gk, 0, none⟩) 8192 8192) := q1
            have q2 : World.cell? _ ⟨g, 2, none⟩ = some (.slice (some ⟨gv, 0, none⟩) 8192 8192) := q2
            have HMP := Lib.hid hMp; have HT3 := Lib.hid hT
            clear hMp hG2 hV2 hM hsl hT
            go_wp2
            go_ret
            exact ⟨by rw [HV.out]; rfl, ⟨_, _, HMP.out⟩, HT3.out.trans (Tw.set1.trans Tw.set2)⟩
end Go.Proofs.Ytbledcogbkeneaa
namespace Go.Proofs.Ytbledcogbkeneaa
open Go.RowKit
set_option linter.unusedVariables false

/-- The first k heaps are in order, none below 0 or above 300. -/
def goodTo (p : List Int) (k : Nat) : Prop := (∀ j, j < k → 0 ≤ gi p j ∧ gi p j ≤ 300) ∧ ∀ j, j + 1 < k → gi p j ≤ gi p (j + 1)
theorem goodTo_zero (p : List Int) : goodTo p 0 := ⟨fun j h => by omega, fun j h => by omega⟩
theorem goodTo_succ {p : List Int} {k : Nat} (h : goodTo p k) (h1 : 0 ≤ gi p k ∧ gi p k ≤ 300) (h2 : 0 < k → gi p (k - 1) ≤ gi p k) : goodTo p (k + 1) := by
  refine ⟨fun j hj => ?_, fun j hj => ?_⟩
  · by_cases e : j = k
    · subst e; exact h1
    · exact h.1 j (by omega)
  · by_cases e : j + 1 = k
    · subst e; exact h2 (by omega)
    · exact h.2 j (by omega)
theorem goodH_to {p : List Int} (h : goodH p) : goodTo p p.length := by
  refine ⟨fun j hj => h.2.1 _ (gi_mem hj), fun j hj => sorted_gi h.2.2 (Nat.le_succ j) hj⟩
theorem goodTo_le {p : List Int} {k n : Nat} (h : goodTo p n) (hk : k ≤ n) : goodTo p k := ⟨fun j hj => h.1 j (by omega), fun j hj => h.2 j (by omega)⟩
theorem goodH_of {p : List Int} (hl : p.length ≤ 20) (h : goodTo p p.length) : goodH p := by
  refine ⟨hl, fun x hx => ?_, ?_⟩
  · obtain ⟨i, hi, rfl⟩ := List.getElem_of_mem hx
    have := h.1 i hi
    simpa [gi, hi] using this
  · rw [List.pairwise_iff_getElem]
    intro i j hi hj hij
    have key : ∀ d, i + d < p.length → gi p i ≤ gi p (i + d) := by
      intro d
      induction d with
      | zero => intro _; exact Int.le_refl _
      | succ d ih =>
        intro hd
        have h1 := ih (by omega)
        have h2 := h.2 (i + d) (by omega)
        exact Int.le_trans h1 h2
    have := key (j - i) (by omega)
    rw [show i + (j - i) = j by omega] at this
    simpa [gi, hi, hj] using this
noncomputable def goodHB (p : List Int) : Bool := @decide (goodH p) (Classical.propDecidable _)
theorem goodHB_t {p : List Int} (h : goodH p) : goodHB p = true := @decide_eq_true _ (Classical.propDecidable _) h
theorem goodHB_f {p : List Int} (h : ¬ goodH p) : goodHB p = false := @decide_eq_false _ (Classical.propDecidable _) h
theorem goodHB_of {p : List Int} (h : goodHB p = true) : goodH p := @of_decide_eq_true _ (Classical.propDecidable _) h
theorem goodHB_no {p : List Int} (h : goodHB p = false) : ¬ goodH p := @of_decide_eq_false _ (Classical.propDecidable _) h

set_option maxHeartbeats 800000 in
theorem goodHeapsI_any (A : Option Addr) (c : Nat) (p : List Int) (w : World) (B : Nat) (h : RdI w B A c p) :
    Calls Try.prog 66 #[.slice A p.length c] w fun e w' => e = .returned (.bool (goodHB p)) ∧ w' = w := by
  have h1 := h.len
  have h2 := h.max
  by_cases hl : p.length ≤ 20
  · have hlI : ¬ (20 : Int) < (p.length : Int) := by omega
    have HL := Lib.hid hl
    go_enter Try.func66, Try.ntmps66
    go_wp2
    go_loop [3, 11] (fun v s => ∃ (k : Nat) (l : Int), s = .int .i64 k ∧ k ≤ p.length ∧ v = .int .i64 l ∧ goodTo p k ∧ (k = 0 → l = 0) ∧ (0 < k → l = gi p (k - 1))) (fun _ s => p.length - (intOf s).toNat)
    case atStart => exact ⟨0, 0, rfl, by omega, rfl, goodTo_zero p, fun _ => rfl, fun h => absurd h (by omega)⟩
    case round =>
      obtain ⟨k, l, rfl, hk, rfl, hg, hl0, hlp⟩ := hrel
      have HG := Lib.hid hg; clear hg
      by_cases hlt : k < p.length
      · obtain ⟨b, o, rfl, hbB, hc⟩ := h.at (j := k) hlt
        have hck := hc k hlt
        have hprev : 0 < k → 0 ≤ gi p (k - 1) := fun hk0 => (HG.out.1 (k - 1) (by omega)).1
        have hbad : gi p k < l ∨ 300 < gi p k → ¬ goodH p := fun hh hg => by
          have h3 := goodH_to hg
          have h4 := h3.1 k hlt
          rcases Nat.eq_zero_or_pos k with e | e
          · have := hl0 e; omega
          · have h5 := h3.2 (k - 1) (by omega)
            rw [show k - 1 + 1 = k by omega] at h5
            have := hlp e
            omega
        have hgood : ¬ (gi p k < l) → ¬ (300 < gi p k) → goodTo p (k + 1) := fun ha hb => by
          refine goodTo_succ HG.out ⟨?_, by omega⟩ fun e => by have := hlp e; omega
          rcases Nat.eq_zero_or_pos k with e | e
          · have := hl0 e; omega
          · have := hlp e; have := hprev e; omega
        have HBAD := Lib.hid hbad; have HGOOD := Lib.hid hgood
        have hxk : gi p k = gi p (k + 1 - 1) := by rw [Nat.add_sub_cancel]
        have HXK := Lib.hid hxk
        clear hc hbad hgood hprev hl0 hlp hxk
        generalize gi p k = x at *
        by_cases ha : x < l
        · have HN : Hid (goodHB p = false) := goodHB_f (HBAD.out (.inl ha))
          go_wp2
          go_ret
          exact ⟨by rw [HN.out]; rfl, rfl⟩
        · by_cases hb : 300 < x
          · have HN : Hid (goodHB p = false) := goodHB_f (HBAD.out (.inr hb))
            go_wp2
            go_ret
            exact ⟨by rw [HN.out]; rfl, rfl⟩
          · have HN := Lib.hid (HGOOD.out ha hb)
            go_wp2
            go_round
            case rel => exact ⟨k + 1, x, by go_num, by omega, rfl, HN.out, fun e => by omega, fun _ => HXK.out⟩
            case measure => simp [intOf]; omega
      · obtain rfl : k = p.length := by omega
        have HN : Hid (goodHB p = true) := goodHB_t (goodH_of HL.out HG.out)
        clear hl0 hlp
        go_wp2
        go_ret
        exact ⟨by rw [HN.out]; rfl, rfl⟩
  · have hlI : (20 : Int) < (p.length : Int) := by omega
    have HN : Hid (goodHB p = false) := goodHB_f fun hg => hl hg.1
    go_enter Try.func66, Try.ntmps66
    go_wp2
    go_ret
    exact ⟨by rw [HN.out]; rfl, rfl⟩

theorem sm_take (p : List Int) (k : Nat) (h : k < p.length) : sm (p.take (k + 1)) = sm (p.take k) + gi p k := by
  rw [take_succ_gi p k h, sm_append]; simp [sm]
theorem sm_bound {p : List Int} (h : ∀ x ∈ p, 0 ≤ x ∧ x ≤ 300) : 0 ≤ sm p ∧ sm p ≤ 300 * p.length := by
  induction p with
  | nil => simp [sm]
  | cons x xs ih =>
    have h1 := h x List.mem_cons_self
    have h2 := ih fun y hy => h y (List.mem_cons_of_mem _ hy)
    simp only [sm, List.length_cons]
    omega
theorem sm_bound_take {p : List Int} (hg : goodH p) (k : Nat) : 0 ≤ sm (p.take k) ∧ sm (p.take k) ≤ 6000 := by
  have h1 := sm_bound (p := p.take k) fun x hx => hg.2.1 x (List.mem_of_mem_take hx)
  have h2 : (p.take k).length ≤ 20 := Nat.le_trans (by rw [List.length_take]; omega) hg.1
  omega

set_option maxHeartbeats 400000 in
theorem totalI_any (A : Option Addr) (c : Nat) (p : List Int) (w : World) (B : Nat) (h : RdI w B A c p) (hg : goodH p) :
    Calls Try.prog 67 #[.slice A p.length c] w fun e w' => e = .returned (.int .i64 (sm p)) ∧ w' = w := by
  have h1 := h.len
  have h2 := h.max
  have HSB : Hid (∀ k, 0 ≤ sm (p.take k) ∧ sm (p.take k) ≤ 6000) := fun k => sm_bound_take hg k
  clear hg
  go_enter Try.func67, Try.ntmps67
  go_wp2
  go_loop [3, 8] (fun v s => ∃ (k : Nat) (t : Int), s = .int .i64 k ∧ k ≤ p.length ∧ v = .int .i64 t ∧ t = sm (p.take k)) (fun _ s => p.length - (intOf s).toNat)
  case atStart => exact ⟨0, 0, rfl, by omega, rfl, by simp [sm]⟩
  case round =>
    obtain ⟨k, t, rfl, hk, rfl, ht⟩ := hrel
    by_cases hlt : k < p.length
    · obtain ⟨b, o, rfl, hbB, hc⟩ := h.at (j := k) hlt
      have hck := hc k hlt
      have hs := sm_take p k hlt
      rw [← ht] at hs
      have hb1 := HSB.out k
      have hb2 := HSB.out (k + 1)
      rw [← ht] at hb1
      rw [hs] at hb2
      have HS := Lib.hid hs
      clear hc hs ht
      generalize gi p k = x at *
      go_wp2
      go_round
      case rel => exact ⟨k + 1, t + x, by go_num, by omega, by go_num, HS.out.symm⟩
      case measure => simp [intOf]; omega
    · obtain rfl : k = p.length := by omega
      rw [List.take_length] at ht
      have HT := Lib.hid ht
      clear ht
      go_wp2
      go_ret
      exact ⟨by rw [← HT.out]; rfl, rfl⟩

set_option maxHeartbeats 400000 in
theorem sumS_any (A : Option Addr) (c : Nat) (p : List Int) (w : World) (B : Nat) (h : RdI w B A c p) (hg : goodH p) :
    Calls Try.prog 46 #[.slice A p.length c] w fun e w' => e = .returned (.int .i64 (sm p)) ∧ w' = w := by
  have h1 := h.len
  have h2 := h.max
  have HSB : Hid (∀ k, 0 ≤ sm (p.take k) ∧ sm (p.take k) ≤ 6000) := fun k => sm_bound_take hg k
  clear hg
  go_enter Try.func46, Try.ntmps46
  go_wp2
  go_loop [3, 4] (fun v s => ∃ (k : Nat) (t : Int), s = .int .i64 k ∧ k ≤ p.length ∧ v = .int .i64 t ∧ t = sm (p.take k)) (fun _ s => p.length - (intOf s).toNat)
  case atStart => exact ⟨0, 0, rfl, by omega, rfl, by simp [sm]⟩
  case round =>
    obtain ⟨k, t, rfl, hk, rfl, ht⟩ := hrel
    by_cases hlt : k < p.length
    · obtain ⟨b, o, rfl, hbB, hc⟩ := h.at (j := k) hlt
      have hck := hc k hlt
      have hs := sm_take p k hlt
      rw [← ht] at hs
      have hb1 := HSB.out k
      have hb2 := HSB.out (k + 1)
      rw [← ht] at hb1
      rw [hs] at hb2
      have HS := Lib.hid hs
      clear hc hs ht
      generalize gi p k = x at *
      go_wp2
      go_round
      case rel => exact ⟨k + 1, t + x, by go_num, by omega, by go_num, HS.out.symm⟩
      case measure => simp [intOf]; omega
    · obtain rfl : k = p.length := by omega
      rw [List.take_length] at ht
      have HT := Lib.hid ht
      clear ht
      go_wp2
      go_ret
      exact ⟨by rw [← HT.out]; rfl, rfl⟩

set_option maxHeartbeats 1600000 in
theorem goodHeapsS_any (A : Option Addr) (c : Nat) (p : List Int) (w : World) (B : Nat) (hB : B ≤ w.heap.size) (h : RdI w B A c p) :
    Calls Try.prog 59 #[.slice A p.length c] w fun e w' => e = .returned (.bool (goodHB p)) ∧ Below w.heap.size w w' := by
  have h1 := h.len
  have h2 := h.max
  by_cases hl : p.length ≤ 20
  · have hlI : ¬ (20 : Int) < (p.length : Int) := by omega
    have HL := Lib.hid hl
    go_enter Try.func59, Try.ntmps59
    go_wp2
    go_loopw [3] (fun s wr => ∃ k : Nat, s = .int .i64 k ∧ k ≤ p.length ∧ goodTo p k ∧ Below w.heap.size w wr) (fun s _ => p.length - (intOf s).toNat)
    case atStart => exact ⟨0, rfl, by omega, goodTo_zero p, Below.refl _ _⟩
    case round =>
      obtain ⟨k, rfl, hk, hg, hb⟩ := hrel
      have HG := Lib.hid hg; clear hg
      by_cases hlt : k < p.length
      · obtain ⟨b, o, rfl, hbB, hc⟩ := (h.below hb hB).at (j := k) hlt
        have hck := hc k hlt
        by_cases hin : 0 ≤ gi p k ∧ gi p k ≤ 300
        · have hi := hin
          have hib : inB (gi p k) 0 300 = true := by simp [inB]; omega
          rcases k with _ | k
          · have HN := Lib.hid (goodTo_succ HG.out hi fun h => absurd h (by omega))
            have HB := Lib.hid hb
            rw [Nat.add_zero] at hck
            clear hc hin hi hb
            go_wp2
            go_quiet ((go_at_call 52; exact Calls.quiet_of_same ((l1In_any _ _ _ _).mono fun _ _ ⟨he, hw⟩ => ⟨he, hw.symm⟩)))
            have HD := Lib.hid (bdrew (Below.refl wr.heap.size wr) nq)
            go_wp2
            go_roundw
            case rel => exact ⟨0 + 1, by go_num, by omega, HN.out, HB.out.trans (HD.out.mono HB.out.size)⟩
            case measure => simp [intOf]; omega
          · have hcm := hc k (by omega)
            have hk1 : (0 : Int) < (k : Int) + 1 := by omega
            by_cases hle : gi p k ≤ gi p (k + 1)
            · have HN := Lib.hid (goodTo_succ HG.out hi fun _ => hle)
              have hnl : ¬ gi p (k + 1) < gi p k := by omega
              have hdl : decide (gi p (k + 1) < gi p k) = false := decide_eq_false hnl
              have HB := Lib.hid hb
              have hw2 : IntKind.i64.wrap ((k : Int) + 1 - 1) = k := by rw [IntKind.wrap_i64]; omega
              have hw3 : IntKind.i64.wrap (k : Int) = k := by rw [IntKind.wrap_i64]; omega
              clear hc hin hi hb hle
              go_wp2
              go_quiet ((go_at_call 52; exact Calls.quiet_of_same ((l1In_any _ _ _ _).mono fun _ _ ⟨he, hw⟩ => ⟨he, hw.symm⟩)))
              clear hw2 hw3
              have HD := Lib.hid (bdrew (Below.refl wr.heap.size wr) nq)
              go_wp2
              go_roundw
              case rel => exact ⟨k + 1 + 1, by go_num, by omega, HN.out, HB.out.trans (HD.out.mono HB.out.size)⟩
              case measure => simp [intOf]; omega
            · have HN : Hid (goodHB p = false) := goodHB_f fun hg => hle ((goodH_to hg).2 k hlt)
              have hnl : gi p (k + 1) < gi p k := by omega
              have HB := Lib.hid hb
              have hw2 : IntKind.i64.wrap ((k : Int) + 1 - 1) = k := by rw [IntKind.wrap_i64]; omega
              have hw3 : IntKind.i64.wrap (k : Int) = k := by rw [IntKind.wrap_i64]; omega
              clear hc hin hi hb hle
              go_wp2
              go_quiet ((go_at_call 52; exact Calls.quiet_of_same ((l1In_any _ _ _ _).mono fun _ _ ⟨he, hw⟩ => ⟨he, hw.symm⟩)))
              have HD := Lib.hid (bdrew (Below.refl wr.heap.size wr) nq)
              clear hw2 hw3
              go_wp2
              go_ret
              exact ⟨by rw [HN.out]; rfl, HB.out.trans (HD.out.mono HB.out.size)⟩
        · have HN : Hid (goodHB p = false) := goodHB_f fun hg => hin ((goodH_to hg).1 k hlt)
          have hib : inB (gi p k) 0 300 = false := by simp [inB]; omega
          have HB := Lib.hid hb
          clear hc hin hb
          go_wp2
          go_quiet ((go_at_call 52; exact Calls.quiet_of_same ((l1In_any _ _ _ _).mono fun _ _ ⟨he, hw⟩ => ⟨he, hw.symm⟩)))
          have HD := Lib.hid (bdrew (Below.refl wr.heap.size wr) nq)
          go_wp2
          go_ret
          exact ⟨by rw [HN.out]; rfl, HB.out.trans (HD.out.mono HB.out.size)⟩
      · obtain rfl : k = p.length := by omega
        have HN : Hid (goodHB p = true) := goodHB_t (goodH_of HL.out HG.out)
        go_wp2
        go_ret
        exact ⟨by rw [HN.out]; rfl, hb⟩
  · have hlI : (20 : Int) < (p.length : Int) := by omega
    have HN : Hid (goodHB p = false) := goodHB_f fun hg => hl hg.1
    go_enter Try.func59, Try.ntmps59
    go_wp2
    go_ret
    exact ⟨by rw [HN.out]; rfl, Below.refl _ _⟩

/-- Whether a code and a position of at most so many objects are valid. -/
noncomputable def smallB (cs p : List Int) (most : Int) : Bool := goodCodeB cs && (goodHB p && decide (sm p ≤ most))

set_option maxHeartbeats 800000 in
theorem smallI_any (A A' : Option Addr) (c c' : Nat) (cs p : List Int) (most : Int) (w : World) (B : Nat) (h : RdI w B A c cs) (h' : RdI w B A' c' p) :
    Calls Try.prog 50 #[.slice A cs.length c, .slice A' p.length c', .int .i64 most] w fun e w' => e = .returned (.bool (smallB cs p most)) ∧ w' = w := by
  have HC := Lib.hid (goodCodeI_any A c cs w B h)
  have HP := Lib.hid (goodHeapsI_any A' c' p w B h')
  rcases hc : goodCodeB cs with _ | _
  · rw [hc] at HC
    have HN : Hid (smallB cs p most = false) := by show _ = _; rw [smallB, hc]; rfl
    clear hc
    go_enter Try.func50, Try.ntmps50
    go_wp2_with (go_at_call 37; (with_reducible refine (HC.out).mono ?_); rintro e w1 ⟨rfl, rfl⟩)
    go_ret
    exact ⟨by rw [HN.out]; rfl, rfl⟩
  · rw [hc] at HC
    rcases hp : goodHB p with _ | _
    · rw [hp] at HP
      have HN : Hid (smallB cs p most = false) := by show _ = _; rw [smallB, hc, hp]; rfl
      clear hc hp
      go_enter Try.func50, Try.ntmps50
      go_wp2_with (first | (go_at_call 37; (with_reducible refine (HC.out).mono ?_); rintro e w1 ⟨rfl, rfl⟩) | (go_at_call 66; (with_reducible refine (HP.out).mono ?_); rintro e w2 ⟨rfl, rfl⟩))
      go_ret
      exact ⟨by rw [HN.out]; rfl, rfl⟩
    · rw [hp] at HP
      have HT := Lib.hid (totalI_any A' c' p w B h' (goodHB_of hp))
      have HN : Hid (smallB cs p most = decide (sm p ≤ most)) := by show _ = _; rw [smallB, hc, hp]; rfl
      clear hc hp
      go_enter Try.func50, Try.ntmps50
      go_wp2_with (first | (go_at_call 37; (with_reducible refine (HC.out).mono ?_); rintro e w1 ⟨rfl, rfl⟩) | (go_at_call 66; (with_reducible refine (HP.out).mono ?_); rintro e w2 ⟨rfl, rfl⟩) | (go_at_call 67; (with_reducible refine (HT.out).mono ?_); rintro e w3 ⟨rfl, rfl⟩))
      go_ret
      exact ⟨by rw [HN.out]; rfl, rfl⟩

set_option maxHeartbeats 800000 in
theorem goodS_any (A A' : Option Addr) (c c' : Nat) (cs p : List Int) (w : World) (B : Nat) (hB : B ≤ w.heap.size) (h : RdI w B A c cs) (h' : RdI w B A' c' p) :
    Calls Try.prog 45 #[.slice A cs.length c, .slice A' p.length c'] w fun e w' => e = .returned (.bool (smallB cs p 20)) ∧ Below w.heap.size w w' := by
  have HC := Lib.hid (goodCodeS_any A c cs w B h)
  have HP := Lib.hid (goodHeapsS_any A' c' p w B hB h')
  rcases hc : goodCodeB cs with _ | _
  · rw [hc] at HC
    have HN : Hid (smallB cs p 20 = false) := by show _ = _; rw [smallB, hc]; rfl
    clear hc
    go_enter Try.func45, Try.ntmps45
    go_wp2_with (go_at_call 34; (with_reducible refine (HC.out).mono ?_); rintro e w1 ⟨rfl, rfl⟩)
    go_ret
    exact ⟨by rw [HN.out]; rfl, Below.refl _ _⟩
  · rw [hc] at HC
    rcases hp : goodHB p with _ | _
    · rw [hp] at HP
      have HN : Hid (smallB cs p 20 = false) := by show _ = _; rw [smallB, hc, hp]; rfl
      clear hc hp
      go_enter Try.func45, Try.ntmps45
      go_wp2_with (first | (go_at_call 34; (with_reducible refine (HC.out).mono ?_); rintro e w1 ⟨rfl, rfl⟩) | (go_at_call 59; (with_reducible refine (HP.out).mono ?_); rintro e w2 ⟨rfl, hb2⟩))
      go_ret
      exact ⟨by rw [HN.out]; rfl, hb2⟩
    · rw [hp] at HP
      have HT := Lib.hid fun W (hW : Below w.heap.size w W) => sumS_any A' c' p W B (h'.below hW hB) (goodHB_of hp)
      have HN : Hid (smallB cs p 20 = decide (sm p ≤ 20)) := by show _ = _; rw [smallB, hc, hp]; rfl
      clear hc hp
      go_enter Try.func45, Try.ntmps45
      go_wp2_with (first | (go_at_call 34; (with_reducible refine (HC.out).mono ?_); rintro e w1 ⟨rfl, rfl⟩) | (go_at_call 59; (with_reducible refine (HP.out).mono ?_); rintro e w2 ⟨rfl, hb2⟩) | (go_at_call 46; (with_reducible refine (HT.out _ hb2).mono ?_); rintro e w3 ⟨rfl, rfl⟩))
      go_ret
      exact ⟨by rw [HN.out]; rfl, hb2⟩
end Go.Proofs.Ytbledcogbkeneaa
namespace Go.Proofs.Ytbledcogbkeneaa
open Go.RowKit Go.Maps
set_option linter.unusedVariables false

theorem newM_any (A : Option Addr) (c : Nat) (cs : List Int) (w : World) :
    Calls Try.prog 32 #[.slice A cs.length c] w fun e w' => ∃ b, e = .returned (.agg #[.slice A cs.length c, .map (some b)]) ∧ w.heap.size ≤ b ∧ MapM w' b cs [] ∧ Below w.heap.size w w' := by
  have hmk := fun w : World => (run_makeMap (P := Try.prog) 50 w)
  go_enter Try.func32, Try.ntmps32
  go_wp2
  have hz : (w.alloc (.cells #[.slice A cs.length c, .map (some (w.heap.size + 1))] 52)).heap.size = w.heap.size + 1 := by simp
  have hM := MapM.new (w.alloc (.cells #[.slice A cs.length c, .map (some (w.heap.size + 1))] 52)) cs
  rw [hz] at hM
  have r0 : ((w.alloc (.cells #[.slice A cs.length c, .map (some (w.heap.size + 1))] 52)).alloc (.map #[] 0)).cell? ⟨w.heap.size, 0, none⟩ = some (.slice A cs.length c) := ((Blk.new w _ _).alloc _).cell 0
  have r1 : ((w.alloc (.cells #[.slice A cs.length c, .map (some (w.heap.size + 1))] 52)).alloc (.map #[] 0)).cell? ⟨w.heap.size, 1, none⟩ = some (.map (some (w.heap.size + 1))) := ((Blk.new w _ _).alloc _).cell 1
  exact bodyPost_ret (v := .agg #[.slice A cs.length c, .map (some (w.heap.size + 1))]) (by simp only [results, Try.results32]; simp [go_sem, r0, r1]) rfl ⟨w.heap.size + 1, rfl, by omega, hM, bel2 w _ _⟩

/-- The misere value of a position, 0 where it or the code isn't valid. -/
noncomputable def mvV (cs p : List Int) : Nat := if smallB cs p 20 = true then mz cs (nz p) else 0
theorem smallB_of {cs p : List Int} {most : Int} (h : smallB cs p most = true) : goodCode cs ∧ goodH p ∧ sm p ≤ most := by
  unfold smallB at h
  rw [Bool.and_eq_true, Bool.and_eq_true] at h
  exact ⟨goodCodeB_true.1 h.1, goodHB_of h.2.1, of_decide_eq_true h.2.2⟩
theorem valI (cs : List Int) (hg : goodCode cs) (Ac : Option Addr) (cc B0 b : Nat) (hk0 : B0 ≤ b) (p : List Int) (w : World) (A : Option Addr) (c : Nat) (K : List (List Int)) (hp : Hp 20 p) (hM : MapM w b cs K) (hcode : RdI w B0 Ac cc cs) (hr : RdI w w.heap.size A c p) (hne : ∀ a, A = some a → a.block ≠ b) :
    Calls Try.prog 54 #[.agg #[.slice Ac cs.length cc, .map (some b)], .slice A p.length c, .int .i64 0, .int .i64 0] w fun e w' =>
      e = .returned (.int .i64 (mz cs p : Nat)) ∧ (∃ K', MapM w' b cs K') ∧ w.grownBy w' (some b) :=
  (valI_any cs hg Ac cc B0 b hk0 ((sm p).toNat + 1) p w A c K hp (by have := hp.nonneg; omega) hM hcode hr hne).mono fun _ _ ⟨h1, ⟨K', h2, _⟩, h3⟩ => ⟨h1, ⟨K', h2⟩, h3⟩
theorem valS (cs : List Int) (hg : goodCode cs) (Ac : Option Addr) (cc B0 g gk gv : Nat) (hk0 : B0 ≤ gk) (hv0 : B0 ≤ gv) (p : List Int) (w : World) (A : Option Addr) (c : Nat) (ks vs : List Int) (hp : Hp 20 p) (hM : BookM w g gk gv Ac cc cs ks vs) (hcode : RdI w B0 Ac cc cs) (hr : RdI w w.heap.size A c p) (hne : ∀ a, A = some a → a.block ≠ gk ∧ a.block ≠ gv) :
    Calls Try.prog 49 #[.pointer (some ⟨g, 0, none⟩), .slice A p.length c, .int .i64 0, .int .i64 0] w fun e w' =>
      e = .returned (.int .i64 (mz cs p : Nat)) ∧ (∃ ks' vs', BookM w' g gk gv Ac cc cs ks' vs') ∧ Tw w w' gk gv :=
  valS_any cs hg Ac cc B0 g gk gv hk0 hv0 ((sm p).toNat + 1) p w A c ks vs hp (by have := hp.nonneg; omega) hM hcode hr hne
theorem goodH_pos {p : List Int} (h : goodH p) : ∀ x ∈ p, 0 ≤ x := fun x hx => (h.2.1 x hx).1
theorem nz_sorted {p : List Int} (h : goodH p) : srt (nz p) = nz p := srt_self (h.2.2.sublist List.filter_sublist)

end Go.Proofs.Ytbledcogbkeneaa
