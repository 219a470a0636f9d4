/- reached of the program by its contract. Conditions: none. -/
import Derived.Test.YtdckgplmkigjcaaRep
namespace Go.Proofs.Ytdckgplmkigjcaa
open Go.RowKit
set_option linter.unusedVariables false

theorem HL.mov {w : World} {lo : Nat} {v : Value} {b : Nat} {P : List Int → Prop} (h : HL w lo v b P) : Mov w lo v b P := by
  obtain ⟨L, g, c, rfl, h2, h3, h4, h5, h6, h7⟩ := h
  have hl : (L.map (·.2)).length = L.length := List.length_map _
  have hfr : FrR w lo 22 3 (.slice (some ⟨g, 0, none⟩) L.length c) ((L.map (·.2)).map ints) := ⟨_, h2, h3.frc, fun i u k hi hu he => by
    rw [List.getElem?_map] at hi
    rcases hx : L[i]? with _ | x
    · rw [hx] at hi; cases hi
    · rw [hx] at hi
      simp only [Option.map_some, Option.some.injEq] at hi
      subst hi
      injection he with he
      subst he
      exact h4 x (List.mem_of_getElem? hx) hu⟩
  exact ⟨L.map (·.2), some ⟨g, 0, none⟩, c, by rw [hl], hfr.rd, h5, by rw [hl]; exact h6, h7⟩
theorem app_new {W w1 : World} {ops : Array Oper} {rest : List Oper} {o : Oper} {a : Act} {Q : Exit → Act → World → Prop} (hgd : o.guard = none) (s x : Operand)
    (ho : o.op = .call { callee := .builtin .append, args := #[s, x], argTypes := #[32, 32] }) (lo : Nat) (v : Value) (b : Nat) (P : List Int → Prop) (xs : List Int) (A : Option Addr) (c : Nat)
    (hm : MvW W lo v b P) (hlo : lo ≤ W.heap.size) (hb1 : Below W.heap.size W w1) (hr : Own w1 W.heap.size 3 (.slice A xs.length c) (ints xs)) (W2 : World) (hW2 : W2 = w1.alloc (.cells #[.slice A xs.length c] 22))
    (hs : a.eval s = v) (hx : a.eval x = .slice (some ⟨w1.heap.size, 0, none⟩) 1 1) (hb : b ≤ 100000000)
    (h : ∀ v' w', MvW w' lo v' (b + 1) (fun ys => P ys ∨ ys = xs) → W2.grownBy w' v.ownBlock → (v'.ownBlock = v.ownBlock ∨ v'.ownBlock = some W2.heap.size) → wpList Try.prog ops Q rest (a.put o.dst v') w') :
    wpList Try.prog ops Q (o :: rest) a W2 := by
  subst hW2
  obtain ⟨xss, g, c0, hv, ⟨cs, hF⟩, hxl, hP⟩ := hm
  have hcl : cs.length = xss.length := by rw [hF.2.1.1, List.length_map]
  have hb2 : Below w1.heap.size w1 (w1.alloc (.cells #[.slice A xs.length c] 22)) := bel1 _ _
  have hb12 := gtr hb1 hb2
  refine wpList_append_at hgd s x 32 22 (.slice none 0 0) 24 ho Try.underlying32 infoRow rfl (by omega) lo v cs hs (hF.1.below hb12) (w1.heap.size + 1) (some ⟨w1.heap.size, 0, none⟩) 1 1 [.slice A xs.length c] hx rfl (Rd.of_blk (Blk.new _ _ _) (Nat.lt_succ_self _)) (fun u hu => by simp at hu; subst hu; rfl) (by simp; omega) (by have := hb12.size; omega) ?_
  intro A6 c6 w6 ho6 hb6 hg6 hp6
  rw [hcl, List.length_singleton] at ho6 hp6 ⊢
  exact h _ w6 (frr_app (g := g) (c := c0) hF hlo hxl hP hb1 hr hb2 ho6 hg6 hp6) hg6 hp6
theorem RdI.grownX {w w' : World} {lo B c : Nat} {A : Option Addr} {xs : List Int} {row : Option Nat} (h : RdI w B A c xs) (hl : Lo lo A) (hg : w.grownBy w' row) (hB : B ≤ w.heap.size) (hr : ∀ g, row = some g → g < lo ∨ B ≤ g) : RdI w' B A c xs := Rd.grown h hl hg hB hr
theorem MvW.blk {w : World} {lo : Nat} {v : Value} {b : Nat} {P : List Int → Prop} (h : MvW w lo v b P) : ∀ k, v.ownBlock = some k → lo ≤ k ∧ k < w.heap.size := by
  obtain ⟨xss, g, c, rfl, h2, r⟩ := h
  exact h2.blk

/-- What the first j moves of heap n leave beside what those of the heaps ahead of it leave. -/
def reaP (cs p : List Int) (n : Nat) (M : List (List Int)) (j : Nat) (q : List Int) : Prop := optU cs p n q ∨ ∃ t, t < j ∧ q = aft p n (gl M t)
theorem reaP_zero (cs p : List Int) (n : Nat) (M : List (List Int)) (q : List Int) : optU cs p n q ↔ reaP cs p n M 0 q :=
  ⟨.inl, fun h => h.elim id fun ⟨t, h, _⟩ => absurd h (by omega)⟩
theorem reaP_succ (cs p : List Int) (n : Nat) (M : List (List Int)) (j : Nat) (q : List Int) : (reaP cs p n M j q ∨ q = aft p n (gl M j)) ↔ reaP cs p n M (j + 1) q := by
  constructor
  · rintro ((h | ⟨t, h, e⟩) | e)
    · exact .inl h
    · exact .inr ⟨t, by omega, e⟩
    · exact .inr ⟨j, by omega, e⟩
  · rintro (h | ⟨t, h, e⟩)
    · exact .inl (.inl h)
    · by_cases ht : t = j
      · subst ht; exact .inr e
      · exact .inl (.inr ⟨t, by omega, e⟩)
theorem reaP_end (cs p : List Int) (n : Nat) (hn : n < p.length) (M : List (List Int)) (hM : ∀ x, x ∈ M ↔ isMv cs (gi p n).toNat x) (q : List Int) : reaP cs p n M M.length q ↔ optU cs p (n + 1) q := by
  rw [optU_succ cs p q n hn]
  constructor
  · rintro (h | ⟨t, h, e⟩)
    · exact .inl h
    · exact .inr ⟨gl M t, (hM _).1 (by rw [gl_lt h]; exact List.getElem_mem h), e⟩
  · rintro (h | ⟨mv, h2, e⟩)
    · exact .inl h
    · obtain ⟨t, ht, rfl⟩ := List.getElem_of_mem ((hM mv).2 h2)
      exact .inr ⟨t, ht, by rw [e, gl_lt ht]⟩

set_option maxRecDepth 100000 in
set_option maxHeartbeats 3200000 in
theorem reached_any (cs : List Int) (hg : goodCode cs) (Ac A : Option Addr) (cc c : Nat) (p q : List Int) (w : World) (B : Nat) (hB : B ≤ w.heap.size) (hcode : RdI w B Ac cc cs) (hr : RdI w B A c p) (hq : q = nz p) (hq20 : Hp 20 q) (hp0 : ∀ x ∈ p, 0 ≤ x) (hpl : p.length ≤ 1000) :
    Calls Try.prog 91 #[.slice Ac cs.length cc, .slice A p.length c] w fun e w' => (∃ v, e = .returned v ∧ HL w' w.heap.size v 200000 (optP cs q)) ∧ Below w.heap.size w w' := by
  have hlen := hq20.len
  have HP := Lib.hid hq20; have HG := Lib.hid hg; have HCODE := Lib.hid hcode
  have hf := fun W (hW : Below w.heap.size w W) => filled_any A c p W B (by have := hW.size; omega) (hr.below hW hB) hp0 (by omega)
  rw [← hq] at hf
  have HF := Lib.hid hf
  clear hf hr hq20 hg hcode hq hp0
  go_enter Try.func91, Try.ntmps91
  go_wp2_with fail
  ((with_reducible refine (HF.out _ (bel1 w _)).mono ?_); rintro e w1 ⟨A1, c1, rfl, ho1, hb1⟩)
  have hm1 := (MvW.new w (optU cs q 0) (optU_zero cs q)).below hb1
  have hbw := gtr (bel1 w (.cells #[] 22)) hb1
  have hz0 : (w.alloc (.cells #[] 22)).heap.size = w.heap.size + 1 := by simp
  have hz1 := hb1.size
  obtain ⟨lo1, hlo1⟩ : ∃ lo1, lo1 = w.heap.size + 1 := ⟨_, rfl⟩
  obtain ⟨B1, hB1⟩ : ∃ B1, B1 = w1.heap.size := ⟨_, rfl⟩
  have hrq : RdI w1 B1 A1 c1 q := by rw [hB1]; exact ho1.rd rfl
  have hloq : Lo lo1 A1 := by
    rw [hlo1, ← hz0]; exact Lo.ownI ho1
  have hblk : ∀ k, (Value.slice (some ⟨w.heap.size, 0, none⟩) 0 0).ownBlock = some k → k < lo1 ∨ B1 ≤ k := fun k hk => by
    have hk : w.heap.size = k := by injection hk
    left; omega
  have hBw : B1 ≤ w1.heap.size := by omega
  have hwl : w.heap.size < lo1 := by omega
  have hlB : lo1 ≤ B1 := by omega
  have HLOQ := Lib.hid hloq
  have hcl := hrq.len
  have hcm := hrq.max
  have HFX : Hid True := trivial
  clear ho1 hb1 hz0 hz1 hlo1 hB1 hloq HF
  go_wp2
  go_loopw [5, 15] (fun v s wr => ∃ k : Nat, s = .int .i64 k ∧ k ≤ q.length ∧ MvW wr w.heap.size v (k * 10000) (optU cs q k) ∧ Below w.heap.size w wr ∧ RdI wr B1 A1 c1 q ∧ (∀ j, v.ownBlock = some j → j < lo1 ∨ B1 ≤ j) ∧ B1 ≤ wr.heap.size) (fun _ s _ => q.length - (intOf s).toNat)
  case atStart => exact ⟨0, rfl, by omega, hm1, hbw, hrq, hblk, hBw⟩
  case round =>
    clear hm1 hbw hrq hblk hBw
    obtain ⟨k, rfl, hk, hm, hb, hrq, hblk, hBw⟩ := hrel
    have HM := Lib.hid hm; have HBLK := Lib.hid hblk
    clear hm hblk
    by_cases hlt : k < q.length
    · rcases k with _ | k
      · obtain ⟨b, o, hbo, hbB, hc⟩ := hrq.at (j := 0) hlt
        have hcn := hc 0 hlt
        subst hbo
        rw [Nat.add_zero] at hcn
        clear hc
        have hgi := HP.out.le (gi_mem hlt)
        obtain ⟨x, hx⟩ := Int.eq_ofNat_of_zero_le (show 0 ≤ gi q (0) by omega)
        rw [hx] at hcn
        try rw [hx] at ht
        have hxx : x ≤ 20 := by omega
        have hxn : (gi q (0)).toNat = x := by omega
        have hmvs := heapMoves_any Ac cc cs x wr w.heap.size hb.size ((HCODE.out.below hb hB).more hB) (by omega) HG.out
        have HMVS := Lib.hid hmvs; have HXN := Lib.hid hxn; have HRQ := Lib.hid hrq; have HB := Lib.hid hb
        have hzr := hb.size
        clear hmvs hx hgi hxn hrq hb
        go_wp2_with fail
        ((with_reducible refine (HMVS.out).mono ?_); rintro e w1 ⟨⟨v1, rfl, hv1⟩, hbm⟩)
        obtain ⟨M, AM, cM, rfl, hrM, hsM, hlM, hmM⟩ := hv1.mov
        have hm1 := HM.out.below hbm
        have hb1 := HB.out.trans (hbm.mono hzr)
        have hrq1 := HRQ.out.below hbm hBw
        have hz1 := hbm.size
        obtain ⟨lo2, hlo2⟩ : ∃ lo2, lo2 = wr.heap.size := ⟨_, rfl⟩
        obtain ⟨B2, hB2⟩ : ∃ B2, B2 = w1.heap.size := ⟨_, rfl⟩
        have hblk2 : ∀ j, (u5 : Value).ownBlock = some j → j < lo2 ∨ B2 ≤ j := fun j hj => .inl (by have := (HM.out.blk j hj).2; omega)
        have hrM1 : RdR w1 lo2 B2 AM cM M := by rw [hlo2, hB2]; exact hrM
        have hB1w : B1 ≤ w1.heap.size := by omega
        have hB2w : B2 ≤ w1.heap.size := by omega
        have hBl : B1 ≤ lo2 := by omega
        have hlB2 : lo2 ≤ B2 := by omega
        have HMM := Lib.hid hmM; have HLM := Lib.hid hlM
        have HEND : Hid (∀ x : List Int, reaP cs q (0) M M.length x ↔ optU cs q (0 + 1) x) := reaP_end cs q (0) hlt M (by rw [HXN.out]; exact HMM.out)
        have hm0 := hm1.congr (b' := (0) * 10000 + 0) (by omega) (fun x => reaP_zero cs q (0) M x)
        clear hv1 hrM hsM hlM hmM hbm hm1 hz1 hlo2 hB2 HRQ HB HM hzr hcn
        go_wp2
        go_loopw [5, 35] (fun v s wi => ∃ j : Nat, s = .int .i64 j ∧ j ≤ M.length ∧ MvW wi w.heap.size v ((0) * 10000 + j) (reaP cs q (0) M j) ∧ Below w.heap.size w wi ∧ RdI wi B1 (some ⟨b, o, none⟩) c1 q ∧ (∀ j, v.ownBlock = some j → j < lo1 ∨ B1 ≤ j) ∧ B1 ≤ wi.heap.size ∧ RdR wi lo2 B2 AM cM M ∧ (∀ j, v.ownBlock = some j → j < lo2 ∨ B2 ≤ j) ∧ B2 ≤ wi.heap.size) (fun _ s _ => M.length - (intOf s).toNat)
        case atStart => exact ⟨0, rfl, by omega, hm0, hb1, hrq1, HBLK.out, hB1w, hrM1, hblk2, hB2w⟩
        case round =>
          clear hm0 hb1 hrq1 hB1w hrM1 hblk2 hB2w HBLK
          obtain ⟨j, rfl, hj, hm, hb, hrq, hblk, hBw, hrM, hblk2, hB2w⟩ := hrel
          obtain ⟨wi, rfl⟩ : ∃ wi, wi = wr := ⟨_, rfl⟩
          have hzi := hb.size
          have hLM := HLM.out
          by_cases hlt2 : j < M.length
          · obtain ⟨bM, oM, rfl, hbM, hcM⟩ := hrM.at (j := j) hlt2
            obtain ⟨Aj, cj, hcj, hrj⟩ := hcM j hlt2
            clear hcM
            have hmv : isMv cs (gi q (0)).toNat (gl M j) := by rw [HXN.out]; exact (HMM.out _).1 (by rw [gl_lt hlt2]; exact List.getElem_mem hlt2)
            have hpos := isMv_pos hmv
            have HSUCC := Lib.hid (reaP_succ cs q (0) M j)
            obtain ⟨mv, hmvn⟩ : ∃ mv, mv = gl M j := ⟨_, rfl⟩
            rw [← hmvn] at hmv hpos hcj hrj HSUCC
            clear hmvn
            have hca := replaced_any (some ⟨b, o, none⟩) Aj c1 cj (0) q mv wi wi.heap.size (Nat.le_refl _) (hrq.more hBw) (hrj.more hB2w) hlt (by omega) (by omega)
            have eni : (((0) : Nat) : Int) = (0 : Int) := by first | rfl | omega
            rw [eni] at hca
            have HCA := Lib.hid hca
            have HM := Lib.hid hm; have HB := Lib.hid hb; have HRQ := Lib.hid hrq; have HBLK := Lib.hid hblk; have HRM := Lib.hid hrM; have HBLK2 := Lib.hid hblk2
            have hbd : (0) * 10000 + j ≤ 100000000 := by omega
            clear hca eni hpos hmv hrj hm hb hrq hblk hrM hblk2
            go_wp2_with fail
            ((with_reducible refine (HCA.out).mono ?_); rintro e w3 ⟨A3, c3, rfl, ho3, hb3⟩)
            have HO3 := Lib.hid ho3; have HB3 := Lib.hid hb3
            have hz3 := hb3.size
            clear ho3 hb3
            go_wp2_with (at_builtin; refine app_new rfl _ _ rfl w.heap.size _ ((0) * 10000 + j) _ (aft q (0) mv) A3 c3 HM.out hzi HB3.out (own_ints.1 HO3.out) _ rfl rfl rfl hbd ?_; intro v4 w4 hm4 hg4 hp4)
            have hza : (w3.alloc (.cells #[.slice A3 (aft q (0) mv).length c3] 22)).heap.size = w3.heap.size + 1 := by simp
            have hz4 := hg4.size
            have HM4 := Lib.hid hm4; have HG4 := Lib.hid hg4; have HP4 := Lib.hid hp4
            clear hm4 hg4 hp4
            go_roundw
            case rel =>
              have hb13 := gtr HB3.out (bel1 w3 (.cells #[.slice A3 (aft q (0) mv).length c3] 22))
              refine ⟨j + 1, by go_num, by omega, HM4.out.congr (by omega) HSUCC.out, (HB.out.trans (hb13.mono hzi)).grown HG4.out (by omega) (fun k hk => (HM.out.blk k hk).1), RdI.grownX (HRQ.out.below hb13 hBw) HLOQ.out HG4.out (by omega) HBLK.out, fun k hk => ?_, by omega, (HRM.out.below hb13 hB2w).grown HG4.out (by omega) HBLK2.out, fun k hk => ?_, by omega⟩
              · rcases HP4.out with e | e
                · rw [e] at hk; exact HBLK.out k hk
                · rw [e] at hk; injection hk with hk; omega
              · rcases HP4.out with e | e
                · rw [e] at hk; exact HBLK2.out k hk
                · rw [e] at hk; injection hk with hk; omega
            case measure => simp [intOf]; omega
          · obtain rfl : j = M.length := by omega
            have HM2 := Lib.hid (hm.congr (b' := (0 + 1) * 10000) (by omega) HEND.out)
            have HB := Lib.hid hb; have HRQ := Lib.hid hrq; have HBLK := Lib.hid hblk
            clear hm hb hrq hblk hrM hblk2
            go_wp2
            go_roundw
            case rel => exact ⟨0 + 1, by go_num, by omega, HM2.out, HB.out, HRQ.out, HBLK.out, hBw⟩
            case measure => simp [intOf]; omega
      · obtain ⟨b, o, hbo, hbB, hc⟩ := hrq.at (j := k + 1) hlt
        have hcn := hc (k + 1) hlt
        have hck := hc k (by omega)
        subst hbo
        clear hc
        have hk1 : (0 : Int) < (k : Int) + 1 := by omega
        by_cases heq : gi q (k + 1) = gi q k
        · have ht : (gi q k == gi q (k + 1)) = true := by simp [heq]
          have HE := Lib.hid heq; clear heq
          have HXL := Lib.hid (HM.out.congr (b' := (k + 1 + 1) * 10000) (Nat.mul_le_mul_right 10000 (Nat.le_succ (k + 1))) (fun x => (optU_skip cs q x (k + 1) (by omega) hlt HE.out).symm))
          have HRQ := Lib.hid hrq; have HB := Lib.hid hb
          clear HM hrq hb
          go_wp2
          go_roundw
          case rel => exact ⟨k + 1 + 1, by go_num, by omega, HXL.out, HB.out, HRQ.out, HBLK.out, hBw⟩
          case measure => simp [intOf]; omega
        · have ht : (gi q k == gi q (k + 1)) = false := by simp [Ne.symm heq]
          clear heq
          have hgi := HP.out.le (gi_mem hlt)
          obtain ⟨x, hx⟩ := Int.eq_ofNat_of_zero_le (show 0 ≤ gi q (k + 1) by omega)
          rw [hx] at hcn
          try rw [hx] at ht
          have hxx : x ≤ 20 := by omega
          have hxn : (gi q (k + 1)).toNat = x := by omega
          have hmvs := heapMoves_any Ac cc cs x wr w.heap.size hb.size ((HCODE.out.below hb hB).more hB) (by omega) HG.out
          have HMVS := Lib.hid hmvs; have HXN := Lib.hid hxn; have HRQ := Lib.hid hrq; have HB := Lib.hid hb
          have hzr := hb.size
          clear hmvs hx hgi hxn hrq hb
          go_wp2_with fail
          ((with_reducible refine (HMVS.out).mono ?_); rintro e w1 ⟨⟨v1, rfl, hv1⟩, hbm⟩)
          obtain ⟨M, AM, cM, rfl, hrM, hsM, hlM, hmM⟩ := hv1.mov
          have hm1 := HM.out.below hbm
          have hb1 := HB.out.trans (hbm.mono hzr)
          have hrq1 := HRQ.out.below hbm hBw
          have hz1 := hbm.size
          obtain ⟨lo2, hlo2⟩ : ∃ lo2, lo2 = wr.heap.size := ⟨_, rfl⟩
          obtain ⟨B2, hB2⟩ : ∃ B2, B2 = w1.heap.size := ⟨_, rfl⟩
          have hblk2 : ∀ j, (u5 : Value).ownBlock = some j → j < lo2 ∨ B2 ≤ j := fun j hj => .inl (by have := (HM.out.blk j hj).2; omega)
          have hrM1 : RdR w1 lo2 B2 AM cM M := by rw [hlo2, hB2]; exact hrM
          have hB1w : B1 ≤ w1.heap.size := by omega
          have hB2w : B2 ≤ w1.heap.size := by omega
          have hBl : B1 ≤ lo2 := by omega
          have hlB2 : lo2 ≤ B2 := by omega
          have HMM := Lib.hid hmM; have HLM := Lib.hid hlM
          have HEND : Hid (∀ x : List Int, reaP cs q (k + 1) M M.length x ↔ optU cs q (k + 1 + 1) x) := reaP_end cs q (k + 1) hlt M (by rw [HXN.out]; exact HMM.out)
          have hm0 := hm1.congr (b' := (k + 1) * 10000 + 0) (by omega) (fun x => reaP_zero cs q (k + 1) M x)
          clear hv1 hrM hsM hlM hmM hbm hm1 hz1 hlo2 hB2 HRQ HB HM hzr hcn
          go_wp2
          go_loopw [5, 35] (fun v s wi => ∃ j : Nat, s = .int .i64 j ∧ j ≤ M.length ∧ MvW wi w.heap.size v ((k + 1) * 10000 + j) (reaP cs q (k + 1) M j) ∧ Below w.heap.size w wi ∧ RdI wi B1 (some ⟨b, o, none⟩) c1 q ∧ (∀ j, v.ownBlock = some j → j < lo1 ∨ B1 ≤ j) ∧ B1 ≤ wi.heap.size ∧ RdR wi lo2 B2 AM cM M ∧ (∀ j, v.ownBlock = some j → j < lo2 ∨ B2 ≤ j) ∧ B2 ≤ wi.heap.size) (fun _ s _ => M.length - (intOf s).toNat)
          case atStart => exact ⟨0, rfl, by omega, hm0, hb1, hrq1, HBLK.out, hB1w, hrM1, hblk2, hB2w⟩
          case round =>
            clear hm0 hb1 hrq1 hB1w hrM1 hblk2 hB2w HBLK
            obtain ⟨j, rfl, hj, hm, hb, hrq, hblk, hBw, hrM, hblk2, hB2w⟩ := hrel
            obtain ⟨wi, rfl⟩ : ∃ wi, wi = wr := ⟨_, rfl⟩
            have hzi := hb.size
            have hLM := HLM.out
            by_cases hlt2 : j < M.length
            · obtain ⟨bM, oM, rfl, hbM, hcM⟩ := hrM.at (j := j) hlt2
              obtain ⟨Aj, cj, hcj, hrj⟩ := hcM j hlt2
              clear hcM
              have hmv : isMv cs (gi q (k + 1)).toNat (gl M j) := by rw [HXN.out]; exact (HMM.out _).1 (by rw [gl_lt hlt2]; exact List.getElem_mem hlt2)
              have hpos := isMv_pos hmv
              have HSUCC := Lib.hid (reaP_succ cs q (k + 1) M j)
              obtain ⟨mv, hmvn⟩ : ∃ mv, mv = gl M j := ⟨_, rfl⟩
              rw [← hmvn] at hmv hpos hcj hrj HSUCC
              clear hmvn
              have hca := replaced_any (some ⟨b, o, none⟩) Aj c1 cj (k + 1) q mv wi wi.heap.size (Nat.le_refl _) (hrq.more hBw) (hrj.more hB2w) hlt (by omega) (by omega)
              have eni : (((k + 1) : Nat) : Int) = (k : Int) + 1 := by first | rfl | omega
              rw [eni] at hca
              have HCA := Lib.hid hca
              have HM := Lib.hid hm; have HB := Lib.hid hb; have HRQ := Lib.hid hrq; have HBLK := Lib.hid hblk; have HRM := Lib.hid hrM; have HBLK2 := Lib.hid hblk2
              have hbd : (k + 1) * 10000 + j ≤ 100000000 := by omega
              clear hca eni hpos hmv hrj hm hb hrq hblk hrM hblk2
              go_wp2_with fail
              ((with_reducible refine (HCA.out).mono ?_); rintro e w3 ⟨A3, c3, rfl, ho3, hb3⟩)
              have HO3 := Lib.hid ho3; have HB3 := Lib.hid hb3
              have hz3 := hb3.size
              clear ho3 hb3
              go_wp2_with (at_builtin; refine app_new rfl _ _ rfl w.heap.size _ ((k + 1) * 10000 + j) _ (aft q (k + 1) mv) A3 c3 HM.out hzi HB3.out (own_ints.1 HO3.out) _ rfl rfl rfl hbd ?_; intro v4 w4 hm4 hg4 hp4)
              have hza : (w3.alloc (.cells #[.slice A3 (aft q (k + 1) mv).length c3] 22)).heap.size = w3.heap.size + 1 := by simp
              have hz4 := hg4.size
              have HM4 := Lib.hid hm4; have HG4 := Lib.hid hg4; have HP4 := Lib.hid hp4
              clear hm4 hg4 hp4
              go_roundw
              case rel =>
                have hb13 := gtr HB3.out (bel1 w3 (.cells #[.slice A3 (aft q (k + 1) mv).length c3] 22))
                refine ⟨j + 1, by go_num, by omega, HM4.out.congr (by omega) HSUCC.out, (HB.out.trans (hb13.mono hzi)).grown HG4.out (by omega) (fun k hk => (HM.out.blk k hk).1), RdI.grownX (HRQ.out.below hb13 hBw) HLOQ.out HG4.out (by omega) HBLK.out, fun k hk => ?_, by omega, (HRM.out.below hb13 hB2w).grown HG4.out (by omega) HBLK2.out, fun k hk => ?_, by omega⟩
                · rcases HP4.out with e | e
                  · rw [e] at hk; exact HBLK.out k hk
                  · rw [e] at hk; injection hk with hk; omega
                · rcases HP4.out with e | e
                  · rw [e] at hk; exact HBLK2.out k hk
                  · rw [e] at hk; injection hk with hk; omega
              case measure => simp [intOf]; omega
            · obtain rfl : j = M.length := by omega
              have HM2 := Lib.hid (hm.congr (b' := (k + 1 + 1) * 10000) (by omega) HEND.out)
              have HB := Lib.hid hb; have HRQ := Lib.hid hrq; have HBLK := Lib.hid hblk
              clear hm hb hrq hblk hrM hblk2
              go_wp2
              go_roundw
              case rel => exact ⟨k + 1 + 1, by go_num, by omega, HM2.out, HB.out, HRQ.out, HBLK.out, hBw⟩
              case measure => simp [intOf]; omega
    · obtain rfl : k = q.length := by omega
      have hS := sortedHeaps_of w.heap.size _ 200000 (optP cs q) _ (HM.out.congr (by omega) fun xs => optU_end cs q xs) (by omega)
      have HS := Lib.hid hS
      clear hS
      go_wp2_with (go_at_call 99; (with_reducible refine (HS.out).mono ?_); rintro e w1 ⟨v1, rfl, hv1, hb1, hz1⟩)
      go_ret
      exact ⟨⟨v1, rfl, hv1⟩, hb.trans hb1⟩
end Go.Proofs.Ytdckgplmkigjcaa
