/- The reference's misere value of a position, by its book. Conditions: none. -/
import Derived.Test.YtdckgplmkigjcaaNewS
import Derived.Test.YtdckgplmkigjcaaSortS
import Derived.Test.YtdckgplmkigjcaaMoves3
namespace Go.Proofs.Ytdckgplmkigjcaa
open Go.RowKit
set_option linter.unusedVariables false

theorem BookM.grown {w w' : World} {g gk gv c : Nat} {A : Option Addr} {cs ks vs : List Int} {row : Option Nat} (h : BookM w g gk gv A c cs ks vs) (hg : w.grownBy w' row) (hr : ∀ b, row = some b → b ≠ g ∧ b ≠ gk ∧ b ≠ gv) : BookM w' g gk gv A c cs ks vs := by
  obtain ⟨h1, h2, h3, r⟩ := h
  exact ⟨h1.grown hg fun e => (hr g e.symm).1 rfl, h2.grown hg fun e => (hr gk e.symm).2.1 rfl, h3.grown hg fun e => (hr gv e.symm).2.2 rfl, r⟩
theorem Tw.grown {u w w' : World} {a b : Nat} {row : Option Nat} (h : Tw u w a b) (hg : w.grownBy w' row) (hr : ∀ k, row = some k → u.heap.size ≤ k) : Tw u w' a b :=
  ⟨hg.os.trans h.1, hg.tape.trans h.2.1, hg.output.trans h.2.2.1, Nat.le_trans h.size hg.size, fun k hk ha hb => (hg.block k (by have := h.size; omega) fun e => by have := hr k e.symm; omega).trans (h.2.2.2.2 k hk ha hb)⟩
theorem Tw.below' {u w w' : World} {a b : Nat} (h : Tw u w a b) (hb : Below w.heap.size w w') : Tw u w' a b := h.trans (Tw.of_below hb)

/-- What is known of the options behind j of the moves of heap n. -/
def leftP (cs p : List Int) (n : Nat) (M : List (List Int)) (j : Nat) (x : Int) : Prop := (∃ q, optU cs p n q ∧ x = (mz cs q : Nat)) ∨ ∃ t, t < j ∧ x = (mz cs (aft p n (gl M t)) : Nat)
theorem leftP_zero (cs p : List Int) (n : Nat) (M : List (List Int)) (x : Int) : leftP cs p n M 0 x ↔ ∃ q, optU cs p n q ∧ x = (mz cs q : Nat) :=
  ⟨fun h => h.elim id fun ⟨t, h, _⟩ => absurd h (by omega), .inl⟩
theorem leftP_succ (cs p : List Int) (n : Nat) (M : List (List Int)) (j : Nat) (x : Int) : leftP cs p n M (j + 1) x ↔ leftP cs p n M j x ∨ x = (mz cs (aft p n (gl M j)) : Nat) := by
  constructor
  · rintro (h | ⟨t, h, e⟩)
    · exact .inl (.inl h)
    · by_cases ht : t = j
      · subst ht; exact .inr e
      · exact .inl (.inr ⟨t, by omega, e⟩)
  · rintro ((h | ⟨t, h, e⟩) | e)
    · exact .inl h
    · exact .inr ⟨t, by omega, e⟩
    · exact .inr ⟨j, by omega, e⟩
theorem leftP_end (cs p : List Int) (n : Nat) (hn : n < p.length) (M : List (List Int)) (hM : ∀ x, x ∈ M ↔ isMv cs (gi p n).toNat x) (x : Int) : leftP cs p n M M.length x ↔ ∃ q, optU cs p (n + 1) q ∧ x = (mz cs q : Nat) := by
  constructor
  · rintro (⟨q, h, e⟩ | ⟨t, h, e⟩)
    · exact ⟨q, (optU_succ cs p q n hn).2 (.inl h), e⟩
    · exact ⟨_, (optU_succ cs p _ n hn).2 (.inr ⟨gl M t, (hM _).1 (by rw [gl_lt h]; exact List.getElem_mem h), rfl⟩), e⟩
  · rintro ⟨q, h, e⟩
    rcases (optU_succ cs p q n hn).1 h with h2 | ⟨mv, h2, rfl⟩
    · exact .inl ⟨q, h2, e⟩
    · obtain ⟨t, ht, rfl⟩ := List.getElem_of_mem ((hM mv).2 h2)
      exact .inr ⟨t, ht, by rw [e, gl_lt ht]⟩

set_option maxRecDepth 100000 in
set_option maxHeartbeats 3200000 in
theorem valS_any (cs : List Int) (hg : goodCode cs) (Ac : Option Addr) (cc B0 g gk gv : Nat) (hk0 : B0 ≤ gk) (hv0 : B0 ≤ gv) : ∀ (m : Nat) (p : List Int) (w : World) (A : Option Addr) (c : Nat) (ks vs : List Int), Hp 20 p → sm p < m → BookM w g gk gv Ac cc cs ks vs → RdI w B0 Ac cc cs → RdI w w.heap.size A c p → (∀ a, A = some a → a.block ≠ gk ∧ a.block ≠ gv) →
    Calls Try.prog 70 #[.pointer (some ⟨g, 0, none⟩), .slice A p.length c, .int .i64 0, .int .i64 0] w fun e w' =>
      e = .returned (.int .i64 (mz cs p : Nat)) ∧ (∃ ks' vs', BookM w' g gk gv Ac cc cs ks' vs') ∧ Tw w w' gk gv := by
  intro m
  induction m with
  | zero => intro p w A c ks vs hp hs; have := hp.nonneg; omega
  | succ m ih =>
    intro p w A c ks vs hp hsm hM hcode hr hne
    have HI := Lib.hid ih; clear ih
    have HP := Lib.hid hp; have HNE := Lib.hid hne; have HSM := Lib.hid hsm
    have hlen := hp.len
    have hlt := hM.lt
    obtain ⟨hgl, hgkl, hgvl⟩ := hlt
    have hrl := hr.len
    have hrm := hr.max
    have HR := Lib.hid hr; have HCODE := Lib.hid hcode; have HG := Lib.hid hg
    have hkey := key_any A c p w w.heap.size (Nat.le_refl _) hr hp
    have HKEY := Lib.hid hkey
    have hM' := Lib.hid hM
    clear hkey hM hr hcode hp hne hsm hg
    obtain ⟨K, hK⟩ : ∃ K : Nat, (K : Int) = ky p := ⟨kf p 20, rfl⟩
    rw [← hK] at HKEY
    have hK16 : K ≤ 16094453760 := by have := ky_lt HP.out; omega
    have HK := Lib.hid hK; clear hK
    go_enter Try.func70, Try.ntmps70
    go_wp2_with fail
    ((with_reducible refine (HKEY.out).mono ?_); rintro e w1 ⟨rfl, hb1⟩)
    have hM1 := hM'.out.below hb1
    have hz1 := hb1.size
    go_wp2_with fail
    ((with_reducible refine (slot_any w1 g gk gv cc Ac cs ks vs K hM1 hK16).mono ?_); rintro e w1' ⟨i, rfl, hsl, hw'⟩)
    have hw2 := hw'.symm
    subst hw2
    clear hw'
    have hi := hsl.lt
    have q1 : w1.cell? ⟨g, 1, none⟩ = some (.slice (some ⟨gk, 0, none⟩) 8192 8192) := hM1.1.cell 1
    have q2 : w1.cell? ⟨g, 2, none⟩ = some (.slice (some ⟨gv, 0, none⟩) 8192 8192) := hM1.1.cell 2
    have c1 := hM1.key i hi
    have c2 := hM1.val i hi
    have HT1 := Lib.hid (Tw.of_below (a := gk) (b := gv) hb1)
    have hbk := hM1.2.2.2.1
    by_cases hhit : gi ks i = (K : Int)
    · have hval := slot_hit hbk HP.out hi (by rw [hhit]; exact HK.out)
      rw [hhit] at c1
      rw [hval] at c2
      have HM1 := Lib.hid hM1
      clear hM1 hb1 hsl hbk hval hhit
      go_wp2
      go_ret
      exact ⟨rfl, ⟨ks, vs, HM1.out⟩, HT1.out⟩
    · have ht : (gi ks i == (K : Int)) = false := by simpa using hhit
      clear hbk hhit hsl q2 c2
      go_wp2
      have hM2 := hM1.below (bel1 w1 (.cells #[] 3))
      have HT2 := HT1.out.below' (bel1 w1 (.cells #[] 3))
      have ho2 : Own (w1.alloc (.cells #[] 3)) w.heap.size 3 (.slice (some ⟨w1.heap.size, 0, none⟩) 0 0) (ints []) := Own.empty w1 3 3 _ hz1
      clear hM1 hb1 q1 c1 HT1 ht hi
      generalize w1.alloc (.cells #[] 3) = w2 at *
      go_loopw [11, 12] (fun v s wr => ∃ (n : Nat) (A1 : Option Addr) (c1 : Nat) (xs : List Int), s = .int .i64 n ∧ n ≤ p.length ∧ v = .slice A1 xs.length c1 ∧ Own wr w.heap.size 3 (.slice A1 xs.length c1) (ints xs) ∧ (∀ x : Int, x ∈ xs ↔ ∃ q, optU cs p n q ∧ x = (mz cs q : Nat)) ∧ xs.length ≤ n * 10000 ∧ (∃ ks vs, BookM wr g gk gv Ac cc cs ks vs) ∧ Tw w wr gk gv) (fun _ s _ => p.length - (intOf s).toNat)
      case atStart => exact ⟨0, _, _, [], rfl, by omega, rfl, ho2, fun x => ⟨fun h => absurd h (by simp), fun ⟨q, h, _⟩ => absurd h (optU_zero cs p q)⟩, by simp, ⟨ks, vs, hM2⟩, HT2⟩
      case round =>
        clear hM2 HT2 ho2
        obtain ⟨n, A1, c1, xs, rfl, hn, rfl, ho, hx, hxl, ⟨ks, vs, hM⟩, hT⟩ := hrel
        have HX := Lib.hid hx; clear hx
        have hzr := hT.size
        by_cases hlt : n < p.length
        · have hx20 := HP.out.le (gi_mem hlt)
          have q0 : wr.cell? ⟨g, 0, none⟩ = some (.slice Ac cs.length cc) := hM.1.cell 0
          have hrp := HR.out.tw hT (Nat.le_refl _) HNE.out
          obtain ⟨b, o, rfl, hbB, hc⟩ := hrp.at (j := n) hlt
          have hcn := hc n hlt
          rcases n with _ | k
          · clear hc
            go_wp2
            go_quiet (fail)
            have hd := bdrew (Below.refl wr.heap.size wr) nq
            have hoW := ho.below hd
            have hMW := hM.below hd
            have hTW := hT.below' hd
            have q0W : (wr.drewN nq).cell? ⟨g, 0, none⟩ = some (.slice Ac cs.length cc) := hMW.1.cell 0
            have hrpW := HR.out.tw hTW (Nat.le_refl _) HNE.out
            have hzW := hTW.size
            clear ho hM hT q0 hrp hzr hd
            go_wp2
            generalize wr.drewN nq = wa at *
            obtain ⟨x, hx⟩ := Int.eq_ofNat_of_zero_le (show 0 ≤ gi p (0) by omega)
            obtain ⟨b, o, hbo, hbB, hc⟩ := hrpW.at (j := 0) hlt
            have hcn := hc (0) hlt
            try rw [Nat.add_zero] at hcn
            injection hbo with hbo
            injection hbo with hb1 hb2
            subst hb1 hb2
            rw [hx] at hcn
            clear hc
            have hxx : x ≤ 20 := by omega
            have hxn : (gi p (0)).toNat = x := by omega
            have hmvs := moves_any Ac cc cs x wa.drew wa.heap.size (Nat.le_refl _) ((HCODE.out.twLow hTW (Nat.le_trans hk0 (Nat.le_of_lt hgkl)) hk0 hv0).more (by omega) |>.below (gdrew (a := wa)) (Nat.le_refl _)) (by omega) HG.out
            have HMVS := Lib.hid hmvs
            have HXN := Lib.hid hxn; have HRP := Lib.hid hrpW
            clear hmvs hx hx20 hxn hrpW
            refine wp_region_tail 8 (by kernel_rfl) (by kernel_rfl) ?_
            simp only [List.take_succ_cons, List.take_zero, List.drop_succ_cons, List.drop_zero]
            repeat (go_big_quiet_step (fail))
            refine wpQuiet_nil ?_
            go_wp2_with (go_at_call 58; (with_reducible refine (HMVS.out).mono ?_); rintro e w1 ⟨⟨v, rfl, M, AM, cM, rfl, hrM, hsM, hlM, hmM⟩, hbM⟩)
            have g1 := gtr (gdrew (a := wa)) hbM
            have ho1 := hoW.below g1
            have hM1 := hMW.below g1
            have hT1 := hTW.below' g1
            have hz1a := g1.size
            have hblk1 : ∀ k, (Value.slice A1 xs.length c1).ownBlock = some k → k < wa.heap.size ∨ w1.heap.size ≤ k := fun k hk => .inl (hoW.lt k hk).2
            obtain ⟨lo1, hlo1⟩ : ∃ lo1, lo1 = wa.heap.size := ⟨_, rfl⟩
            obtain ⟨B1, hB1⟩ : ∃ B1, B1 = w1.heap.size := ⟨_, rfl⟩
            have hrM1 : RdR w1 lo1 B1 AM cM M := by rw [hlo1, hB1]; exact hrM
            rw [← hlo1, ← hB1] at hblk1
            have hwl : w.heap.size ≤ lo1 := by omega
            have hlB : lo1 ≤ B1 := by omega
            have hB1w : B1 ≤ w1.heap.size := by omega
            have HMM := Lib.hid hmM; have HLM := Lib.hid hlM
            have HEND : Hid (∀ x : Int, leftP cs p (0) M M.length x ↔ ∃ q, optU cs p (0 + 1) q ∧ x = (mz cs q : Nat)) := leftP_end cs p (0) hlt M (by rw [HXN.out]; exact HMM.out)
            clear hrM hsM hlM hmM hbM g1 hoW hMW hTW q0W hcn hlo1 hB1 hz1a hzW
            go_wp2
            go_loopw [11, 14] (fun v s wi => ∃ (j : Nat) (A2 : Option Addr) (c2 : Nat) (ys : List Int), s = .int .i64 j ∧ j ≤ M.length ∧ v = .slice A2 ys.length c2 ∧ Own wi w.heap.size 3 (.slice A2 ys.length c2) (ints ys) ∧ (∀ x : Int, x ∈ ys ↔ leftP cs p (0) M j x) ∧ ys.length ≤ xs.length + j ∧ (∃ ks vs, BookM wi g gk gv Ac cc cs ks vs) ∧ Tw w wi gk gv ∧ RdR wi lo1 B1 AM cM M ∧ (∀ k, (Value.slice A2 ys.length c2).ownBlock = some k → k < lo1 ∨ B1 ≤ k) ∧ B1 ≤ wi.heap.size) (fun _ s _ => M.length - (intOf s).toNat)
            case atStart => exact ⟨0, A1, c1, xs, rfl, by omega, rfl, ho1, fun x => (HX.out x).trans (leftP_zero cs p (0) M x).symm, by omega, ⟨ks, vs, hM1⟩, hT1, hrM1, hblk1, hB1w⟩
            case round =>
              clear ho1 hM1 hT1 hrM1 hblk1 hB1w
              obtain ⟨j, A2, c2, ys, rfl, hj, rfl, ho, hy, hyl, ⟨ks, vs, hM⟩, hT, hrM, hblk, hBw⟩ := hrel
              obtain ⟨wi, rfl⟩ : ∃ wi, wi = wr := ⟨_, rfl⟩
              have HY := Lib.hid hy; clear hy
              have hLM := HLM.out
              have hzi := hT.size
              by_cases hlt2 : j < M.length
              · obtain ⟨bM, oM, rfl, hbM, hcM⟩ := hrM.at (j := j) hlt2
                obtain ⟨Aj, cj, hcj, hrj⟩ := hcM j hlt2
                clear hcM
                have hmv : isMv cs (gi p (0)).toNat (gl M j) := by rw [HXN.out]; exact (HMM.out _).1 (by rw [gl_lt hlt2]; exact List.getElem_mem hlt2)
                have hpos := isMv_pos hmv
                have hp2 := hp_aft HP.out hlt hmv
                have hp0 := hp_aft0 HP.out hlt hmv
                have hrp := HRP.out
                have HSUCC := Lib.hid (leftP_succ cs p (0) M j)
                obtain ⟨mv, hmvn⟩ : ∃ mv, mv = gl M j := ⟨_, rfl⟩
                rw [← hmvn] at hmv hpos hp2 hp0 hcj hrj HSUCC
                clear hmvn
                have hca := afterS_any (some ⟨b, o, none⟩) Aj c cj (0) p mv wi wi.heap.size (Nat.le_refl _) ((HR.out.tw hT (Nat.le_refl _) HNE.out).more hzi) (hrj.more hBw) hlt (by omega) (by omega) hp0.1
                have eni : (((0) : Nat) : Int) = (0 : Int) := by first | rfl | omega
                rw [eni] at hca
                have HCA := Lib.hid hca
                have HP2 := Lib.hid hp2.1
                have hs2 : sm (aft p (0) mv) < m := by have := HSM.out; omega
                have HS2 := Lib.hid hs2
                have HO := Lib.hid ho; have HM := Lib.hid hM; have HT := Lib.hid hT; have HRM := Lib.hid hrM; have HBLK := Lib.hid hblk
                clear hca eni hp2 hp0 hpos hmv hrj hs2 ho hM hT hrM hblk hrp
                go_wp2_with fail
                ((with_reducible refine (HCA.out).mono ?_); rintro e w3 ⟨A3, c3, rfl, ho3, hb3⟩)
                have hM3 := HM.out.below hb3
                have hz3 := hb3.size
                have hT3 := HT.out.below' hb3
                have hcall := HI.out (aft p (0) mv) w3 A3 c3 ks vs HP2.out HS2.out hM3 (HCODE.out.twLow hT3 (Nat.le_trans hk0 (Nat.le_of_lt hgkl)) hk0 hv0) (ho3.rd rfl) (fun a ha => by subst ha; have := (ho3.lt a.block rfl).1; exact ⟨by omega, by omega⟩)
                have HCALL := Lib.hid hcall
                have HO3 := Lib.hid (HO.out.below hb3)
                have HRM3 := Lib.hid (HRM.out.below hb3 hBw)
                have HT3 := Lib.hid hT3
                clear hcall hM3 ho3 hT3 hb3
                go_wp2_with fail
                ((with_reducible refine (HCALL.out).mono ?_); rintro e w4 ⟨rfl, ⟨ks4, vs4, hM4⟩, hT4⟩)
                obtain ⟨u, hu⟩ : ∃ u, u = mz cs (aft p (0) mv) := ⟨_, rfl⟩
                rw [← hu]
                have HU := Lib.hid hu
                have hz4 := hT4.size
                have HO4 := Lib.hid (HO3.out.tw hT4 fun k hk => by have := (HO3.out.lt k hk).1; omega)
                have HRM4 := Lib.hid (HRM3.out.tw hT4 (by omega) (.inl (by omega)) (.inl (by omega)))
                have HT4 := Lib.hid (HT3.out.trans hT4)
                have HM4 := Lib.hid hM4
                clear hu hM4 hT4
                go_wp2_with (at_builtin; refine append_int_at rfl _ _ rfl w.heap.size (.slice A2 ys.length c2) ys rfl (own_ints.2 (HO4.out.below (bel1 _ _))) w4.heap.size u rfl (Blk.new _ _ _) (by omega) (by simp; omega) ?_; intro A5 c5 w5 ho5 hb5 hg5 hp5)
                have hz5 := hg5.size
                have hza : (w4.alloc (.cells #[.int .i64 u] 3)).heap.size = w4.heap.size + 1 := by simp
                have HO5 := Lib.hid ho5; have HG5 := Lib.hid hg5; have HP5 := Lib.hid hp5
                clear ho5 hb5 hg5 hp5
                go_roundw
                case rel =>
                  have hbase : ∀ k, (Value.slice A2 ys.length c2).ownBlock = some k → w.heap.size ≤ k := fun k hk => (HO4.out.lt k hk).1
                  have ey : (ys ++ [(u : Int)]).length = ys.length + 1 := by simp
                  refine ⟨j + 1, A5, c5, ys ++ [(u : Int)], by go_num, by omega, by rw [ey], by rw [ey]; exact own_ints.1 HO5.out, fun x => ?_, by rw [ey]; omega, ⟨ks4, vs4, (HM4.out.below (bel1 _ _)).grown HG5.out fun k hk => by have := hbase k hk; exact ⟨by omega, by omega, by omega⟩⟩, (HT4.out.below' (bel1 _ _)).grown HG5.out hbase, (HRM4.out.below (bel1 _ _) (by omega)).grown HG5.out (by omega) HBLK.out, fun k hk => ?_, by omega⟩
                  · rw [List.mem_append, HSUCC.out x, HY.out x, List.mem_singleton, HU.out]
                  · rw [ey] at hk
                    rcases HP5.out with e | e
                    · rw [e] at hk; exact HBLK.out k hk
                    · rw [e] at hk; injection hk with hk; omega
                case measure => simp [intOf]; omega
              · obtain rfl : j = M.length := by omega
                have HO := Lib.hid ho; have HM := Lib.hid hM; have HT := Lib.hid hT
                have HYL := Lib.hid (show ys.length ≤ (0 + 1) * 10000 by omega)
                clear ho hM hT hrM hblk
                go_wp2
                go_roundw
                case rel => exact ⟨0 + 1, A2, c2, ys, by go_num, by omega, rfl, HO.out, fun x => (HY.out x).trans (HEND.out x), HYL.out, ⟨ks, vs, HM.out⟩, HT.out⟩
                case measure => simp [intOf]; omega
          · have hcm := hc k (by omega)
            clear hc
            have HXL := Lib.hid (Nat.le_trans hxl (Nat.mul_le_mul_right 10000 (Nat.le_succ (k + 1))))
            have hw2 : IntKind.i64.wrap ((k : Int) + 1 - 1) = k := by rw [IntKind.wrap_i64]; omega
            have hw3 : IntKind.i64.wrap (k : Int) = k := by rw [IntKind.wrap_i64]; omega
            have hk1 : (0 : Int) < (k : Int) + 1 := by omega
            by_cases heq : gi p (k + 1) = gi p k
            · have ht : (gi p (k + 1) == gi p k) = true := by simp [heq]
              have HE := Lib.hid heq; clear heq
              have HO := Lib.hid ho; have HM := Lib.hid hM; have HT := Lib.hid hT
              clear ho hM hT hrp hx20
              go_wp2
              go_quiet (fail)
              clear hw2 hw3
              have HD := Lib.hid (bdrew (Below.refl wr.heap.size wr) nq)
              go_wp2
              go_roundw
              case rel =>
                refine ⟨k + 1 + 1, A1, c1, xs, by go_num, by omega, rfl, HO.out.below HD.out, fun x => ?_, HXL.out, ⟨ks, vs, HM.out.below HD.out⟩, HT.out.below' HD.out⟩
                rw [HX.out x]
                exact exists_congr fun q => and_congr (optU_skip cs p q (k + 1) (by omega) hlt HE.out).symm Iff.rfl
              case measure => simp [intOf]; omega
            · have ht : (gi p (k + 1) == gi p k) = false := by simp [heq]
              have HE := Lib.hid heq; clear heq
              go_wp2
              go_quiet (fail)
              clear hw2 hw3 HXL
              have hd := bdrew (Below.refl wr.heap.size wr) nq
              have hoW := ho.below hd
              have hMW := hM.below hd
              have hTW := hT.below' hd
              have q0W : (wr.drewN nq).cell? ⟨g, 0, none⟩ = some (.slice Ac cs.length cc) := hMW.1.cell 0
              have hrpW := HR.out.tw hTW (Nat.le_refl _) HNE.out
              have hzW := hTW.size
              clear ho hM hT q0 hrp hzr hd
              go_wp2
              generalize wr.drewN nq = wa at *
              obtain ⟨x, hx⟩ := Int.eq_ofNat_of_zero_le (show 0 ≤ gi p (k + 1) by omega)
              obtain ⟨b, o, hbo, hbB, hc⟩ := hrpW.at (j := k + 1) hlt
              have hcn := hc (k + 1) hlt
              try rw [Nat.add_zero] at hcn
              injection hbo with hbo
              injection hbo with hb1 hb2
              subst hb1 hb2
              rw [hx] at hcn
              clear hc
              have hxx : x ≤ 20 := by omega
              have hxn : (gi p (k + 1)).toNat = x := by omega
              have hmvs := moves_any Ac cc cs x wa.drew wa.heap.size (Nat.le_refl _) ((HCODE.out.twLow hTW (Nat.le_trans hk0 (Nat.le_of_lt hgkl)) hk0 hv0).more (by omega) |>.below (gdrew (a := wa)) (Nat.le_refl _)) (by omega) HG.out
              have HMVS := Lib.hid hmvs
              have HXN := Lib.hid hxn; have HRP := Lib.hid hrpW
              clear hmvs hx hx20 hxn hrpW
              refine wp_region_tail 8 (by kernel_rfl) (by kernel_rfl) ?_
              simp only [List.take_succ_cons, List.take_zero, List.drop_succ_cons, List.drop_zero]
              repeat (go_big_quiet_step (fail))
              refine wpQuiet_nil ?_
              go_wp2_with (go_at_call 58; (with_reducible refine (HMVS.out).mono ?_); rintro e w1 ⟨⟨v, rfl, M, AM, cM, rfl, hrM, hsM, hlM, hmM⟩, hbM⟩)
              have g1 := gtr (gdrew (a := wa)) hbM
              have ho1 := hoW.below g1
              have hM1 := hMW.below g1
              have hT1 := hTW.below' g1
              have hz1a := g1.size
              have hblk1 : ∀ k, (Value.slice A1 xs.length c1).ownBlock = some k → k < wa.heap.size ∨ w1.heap.size ≤ k := fun k hk => .inl (hoW.lt k hk).2
              obtain ⟨lo1, hlo1⟩ : ∃ lo1, lo1 = wa.heap.size := ⟨_, rfl⟩
              obtain ⟨B1, hB1⟩ : ∃ B1, B1 = w1.heap.size := ⟨_, rfl⟩
              have hrM1 : RdR w1 lo1 B1 AM cM M := by rw [hlo1, hB1]; exact hrM
              rw [← hlo1, ← hB1] at hblk1
              have hwl : w.heap.size ≤ lo1 := by omega
              have hlB : lo1 ≤ B1 := by omega
              have hB1w : B1 ≤ w1.heap.size := by omega
              have HMM := Lib.hid hmM; have HLM := Lib.hid hlM
              have HEND : Hid (∀ x : Int, leftP cs p (k + 1) M M.length x ↔ ∃ q, optU cs p (k + 1 + 1) q ∧ x = (mz cs q : Nat)) := leftP_end cs p (k + 1) hlt M (by rw [HXN.out]; exact HMM.out)
              clear hrM hsM hlM hmM hbM g1 hoW hMW hTW q0W hcn hlo1 hB1 hz1a hzW
              go_wp2
              go_loopw [11, 14] (fun v s wi => ∃ (j : Nat) (A2 : Option Addr) (c2 : Nat) (ys : List Int), s = .int .i64 j ∧ j ≤ M.length ∧ v = .slice A2 ys.length c2 ∧ Own wi w.heap.size 3 (.slice A2 ys.length c2) (ints ys) ∧ (∀ x : Int, x ∈ ys ↔ leftP cs p (k + 1) M j x) ∧ ys.length ≤ xs.length + j ∧ (∃ ks vs, BookM wi g gk gv Ac cc cs ks vs) ∧ Tw w wi gk gv ∧ RdR wi lo1 B1 AM cM M ∧ (∀ k, (Value.slice A2 ys.length c2).ownBlock = some k → k < lo1 ∨ B1 ≤ k) ∧ B1 ≤ wi.heap.size) (fun _ s _ => M.length - (intOf s).toNat)
              case atStart => exact ⟨0, A1, c1, xs, rfl, by omega, rfl, ho1, fun x => (HX.out x).trans (leftP_zero cs p (k + 1) M x).symm, by omega, ⟨ks, vs, hM1⟩, hT1, hrM1, hblk1, hB1w⟩
              case round =>
                clear ho1 hM1 hT1 hrM1 hblk1 hB1w
                obtain ⟨j, A2, c2, ys, rfl, hj, rfl, ho, hy, hyl, ⟨ks, vs, hM⟩, hT, hrM, hblk, hBw⟩ := hrel
                obtain ⟨wi, rfl⟩ : ∃ wi, wi = wr := ⟨_, rfl⟩
                have HY := Lib.hid hy; clear hy
                have hLM := HLM.out
                have hzi := hT.size
                by_cases hlt2 : j < M.length
                · obtain ⟨bM, oM, rfl, hbM, hcM⟩ := hrM.at (j := j) hlt2
                  obtain ⟨Aj, cj, hcj, hrj⟩ := hcM j hlt2
                  clear hcM
                  have hmv : isMv cs (gi p (k + 1)).toNat (gl M j) := by rw [HXN.out]; exact (HMM.out _).1 (by rw [gl_lt hlt2]; exact List.getElem_mem hlt2)
                  have hpos := isMv_pos hmv
                  have hp2 := hp_aft HP.out hlt hmv
                  have hp0 := hp_aft0 HP.out hlt hmv
                  have hrp := HRP.out
                  have HSUCC := Lib.hid (leftP_succ cs p (k + 1) M j)
                  obtain ⟨mv, hmvn⟩ : ∃ mv, mv = gl M j := ⟨_, rfl⟩
                  rw [← hmvn] at hmv hpos hp2 hp0 hcj hrj HSUCC
                  clear hmvn
                  have hca := afterS_any (some ⟨b, o, none⟩) Aj c cj (k + 1) p mv wi wi.heap.size (Nat.le_refl _) ((HR.out.tw hT (Nat.le_refl _) HNE.out).more hzi) (hrj.more hBw) hlt (by omega) (by omega) hp0.1
                  have eni : (((k + 1) : Nat) : Int) = (k : Int) + 1 := by first | rfl | omega
                  rw [eni] at hca
                  have HCA := Lib.hid hca
                  have HP2 := Lib.hid hp2.1
                  have hs2 : sm (aft p (k + 1) mv) < m := by have := HSM.out; omega
                  have HS2 := Lib.hid hs2
                  have HO := Lib.hid ho; have HM := Lib.hid hM; have HT := Lib.hid hT; have HRM := Lib.hid hrM; have HBLK := Lib.hid hblk
                  clear hca eni hp2 hp0 hpos hmv hrj hs2 ho hM hT hrM hblk hrp
                  go_wp2_with fail
                  ((with_reducible refine (HCA.out).mono ?_); rintro e w3 ⟨A3, c3, rfl, ho3, hb3⟩)
                  have hM3 := HM.out.below hb3
                  have hz3 := hb3.size
                  have hT3 := HT.out.below' hb3
                  have hcall := HI.out (aft p (k + 1) mv) w3 A3 c3 ks vs HP2.out HS2.out hM3 (HCODE.out.twLow hT3 (Nat.le_trans hk0 (Nat.le_of_lt hgkl)) hk0 hv0) (ho3.rd rfl) (fun a ha => by subst ha; have := (ho3.lt a.block rfl).1; exact ⟨by omega, by omega⟩)
                  have HCALL := Lib.hid hcall
                  have HO3 := Lib.hid (HO.out.below hb3)
                  have HRM3 := Lib.hid (HRM.out.below hb3 hBw)
                  have HT3 := Lib.hid hT3
                  clear hcall hM3 ho3 hT3 hb3
                  go_wp2_with fail
                  ((with_reducible refine (HCALL.out).mono ?_); rintro e w4 ⟨rfl, ⟨ks4, vs4, hM4⟩, hT4⟩)
                  obtain ⟨u, hu⟩ : ∃ u, u = mz cs (aft p (k + 1) mv) := ⟨_, rfl⟩
                  rw [← hu]
                  have HU := Lib.hid hu
                  have hz4 := hT4.size
                  have HO4 := Lib.hid (HO3.out.tw hT4 fun k hk => by have := (HO3.out.lt k hk).1; omega)
                  have HRM4 := Lib.hid (HRM3.out.tw hT4 (by omega) (.inl (by omega)) (.inl (by omega)))
                  have HT4 := Lib.hid (HT3.out.trans hT4)
                  have HM4 := Lib.hid hM4
                  clear hu hM4 hT4
                  go_wp2_with (at_builtin; refine append_int_at rfl _ _ rfl w.heap.size (.slice A2 ys.length c2) ys rfl (own_ints.2 (HO4.out.below (bel1 _ _))) w4.heap.size u rfl (Blk.new _ _ _) (by omega) (by simp; omega) ?_; intro A5 c5 w5 ho5 hb5 hg5 hp5)
                  have hz5 := hg5.size
                  have hza : (w4.alloc (.cells #[.int .i64 u] 3)).heap.size = w4.heap.size + 1 := by simp
                  have HO5 := Lib.hid ho5; have HG5 := Lib.hid hg5; have HP5 := Lib.hid hp5
                  clear ho5 hb5 hg5 hp5
                  go_roundw
                  case rel =>
                    have hbase : ∀ k, (Value.slice A2 ys.length c2).ownBlock = some k → w.heap.size ≤ k := fun k hk => (HO4.out.lt k hk).1
                    have ey : (ys ++ [(u : Int)]).length = ys.length + 1 := by simp
                    refine ⟨j + 1, A5, c5, ys ++ [(u : Int)], by go_num, by omega, by rw [ey], by rw [ey]; exact own_ints.1 HO5.out, fun x => ?_, by rw [ey]; omega, ⟨ks4, vs4, (HM4.out.below (bel1 _ _)).grown HG5.out fun k hk => by have := hbase k hk; exact ⟨by omega, by omega, by omega⟩⟩, (HT4.out.below' (bel1 _ _)).grown HG5.out hbase, (HRM4.out.below (bel1 _ _) (by omega)).grown HG5.out (by omega) HBLK.out, fun k hk => ?_, by omega⟩
                    · rw [List.mem_append, HSUCC.out x, HY.out x, List.mem_singleton, HU.out]
                    · rw [ey] at hk
                      rcases HP5.out with e | e
                      · rw [e] at hk; exact HBLK.out k hk
                      · rw [e] at hk; injection hk with hk; omega
                  case measure => simp [intOf]; omega
                · obtain rfl : j = M.length := by omega
                  have HO := Lib.hid ho; have HM := Lib.hid hM; have HT := Lib.hid hT
                  have HYL := Lib.hid (show ys.length ≤ (k + 1 + 1) * 10000 by omega)
                  clear ho hM hT hrM hblk
                  go_wp2
                  go_roundw
                  case rel => exact ⟨k + 1 + 1, A2, c2, ys, by go_num, by omega, rfl, HO.out, fun x => (HY.out x).trans (HEND.out x), HYL.out, ⟨ks, vs, HM.out⟩, HT.out⟩
                  case measure => simp [intOf]; omega
        · obtain rfl : n = p.length := by omega
          have hml := mz_list (xs := xs) HP.out fun x => (HX.out x).trans (exists_congr fun q => and_congr (optU_end cs p q) Iff.rfl)
          by_cases hxs : xs = []
          · have HV : Hid (mz cs p = 1) := hml.1 hxs
            subst hxs
            clear hml ho hxl hlt
            go_wp2_with fail
            ((with_reducible refine (slot_any _ g gk gv cc Ac cs ks vs K hM hK16).mono ?_); rintro e w3 ⟨i, rfl, hsl, hw⟩)
            subst hw
            have hi := hsl.lt
            rw [HK.out] at hsl
            have hMp := hM.put HP.out hsl
            rw [← HK.out, HV.out] at hMp
            have q1 := hM.1.cell 1
            have c1 := hM.key i hi
            have f1 := hM.2.1.frozen i
            have hG2 := hM.1.far (p := ⟨gk, i, none⟩) hM.2.2.2.2.1 (.int .i64 (K : Int))
            have hV2 := hM.2.2.1.far (p := ⟨gk, i, none⟩) (Ne.symm hM.2.2.2.2.2.2) (.int .i64 (K : Int))
            have q2 := hG2.cell 2
            have c2 := (hV2.cell i).trans (arr_gi vs i (by rw [hM.2.2.2.1.2.1]; exact hi))
            have f2 := hV2.frozen i
            have q1 : World.cell? _ ⟨g, 1, none⟩ = some (.slice (some ⟨gk, 0, none⟩) 8192 8192) := q1
            have q2 : World.cell? _ ⟨g, 2, none⟩ = some (.slice (some ⟨gv, 0, none⟩) 8192 8192) := q2
            have HMP := Lib.hid hMp; have HT3 := Lib.hid hT
            clear hMp hG2 hV2 hM hsl hT
            go_wp2
            go_ret
            exact ⟨by rw [HV.out]; rfl, ⟨_, _, HMP.out⟩, HT3.out.trans (Tw.set1.trans Tw.set2)⟩
          · have hpos := List.length_pos_iff.2 hxs
            have HML := Lib.hid (hml.2 hxs)
            have hrx := (own_ints.2 ho).rd rfl
            have HRX := Lib.hid hrx
            clear hml hxs hrx hlt ho
            go_wp2_with fail
            ((with_reducible refine (mexS_any A1 c1 xs wr _ HRX.out (by omega)).mono ?_); rintro e w3 ⟨v, rfl, hv1, hv2, hw⟩)
            subst hw
            have HV : Hid (mz cs p = v) := HML.out v hv1 hv2
            clear hv1 hv2 hpos
            go_wp2_with fail
            ((with_reducible refine (slot_any _ g gk gv cc Ac cs ks vs K hM hK16).mono ?_); rintro e w3 ⟨i, rfl, hsl, hw⟩)
            subst hw
            have hi := hsl.lt
            rw [HK.out] at hsl
            have hMp := hM.put HP.out hsl
            rw [← HK.out, HV.out] at hMp
            have q1 := hM.1.cell 1
            have c1 := hM.key i hi
            have f1 := hM.2.1.frozen i
            have hG2 := hM.1.far (p := ⟨gk, i, none⟩) hM.2.2.2.2.1 (.int .i64 (K : Int))
            have hV2 := hM.2.2.1.far (p := ⟨gk, i, none⟩) (Ne.symm hM.2.2.2.2.2.2) (.int .i64 (K : Int))
            have q2 := hG2.cell 2
            have c2 := (hV2.cell i).trans (arr_gi vs i (by rw [hM.2.2.2.1.2.1]; exact hi))
            have f2 := hV2.frozen i
            have q1 : World.cell? _ ⟨g, 1, none⟩ = some (.slice (some ⟨gk, 0, none⟩) 8192 8192) := q1
            have q2 : World.cell? _ ⟨g, 2, none⟩ = some (.slice (some ⟨gv, 0, none⟩) 8192 8192) := q2
            have HMP := Lib.hid hMp; have HT3 := Lib.hid hT
            clear hMp hG2 hV2 hM hsl hT
            go_wp2
            go_ret
            exact ⟨by rw [HV.out]; rfl, ⟨_, _, HMP.out⟩, HT3.out.trans (Tw.set1.trans Tw.set2)⟩
end Go.Proofs.Ytdckgplmkigjcaa
