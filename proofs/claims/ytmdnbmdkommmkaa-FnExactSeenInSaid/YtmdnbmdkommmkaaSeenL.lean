/- FnExactSeenIn returns true: the walk. Conditions: none. -/
import Derived.Test.YtmdnbmdkommmkaaSeen2
import Derived.Test.YtmdnbmdkommmkaaRow1
import Derived.Test.YtmdnbmdkommmkaaSl
import Derived.Deep.RegionHeld3
namespace Go.Proofs.Ytmdnbmdkommmkaa
open Go.RowKit
set_option linter.unusedVariables false

theorem RdI.of_own {w : World} {base : Nat} {A : Option Addr} {n c : Nat} {xs : List Int} (h : Own w base 3 (.slice A n c) (ints xs)) : RdI w w.heap.size A c xs := h.rd
theorem seen_ex (cs : List Int) (p l : Int) : ∃ (S : List Int) (b : Bool), S.length ≤ 150 ∧
    (∀ A c w B, B ≤ w.heap.size → RdI w B A c cs → Calls Try.prog 39 #[.slice A cs.length c, .agg #[.int .i64 p, .int .i64 l]] w (SeenI w S b)) ∧
    (∀ A c w B, B ≤ w.heap.size → RdI w B A c cs → Calls Try.prog 36 #[.slice A cs.length c, .agg #[.int .i64 p, .int .i64 l]] w fun e w' => ∃ A' c', e = .returned (.tuple #[.slice A' S.length c', .bool b]) ∧ RdI w' w'.heap.size A' c' S ∧ Below w.heap.size w w') := by
  cases hp : provedB cs p l
  · refine ⟨[], false, by simp, fun A c w B hB h => ?_, fun A c w B hB h => ?_⟩
    · have HP : Hid (∀ W, Below w.heap.size w W → Calls Try.prog 23 #[.slice A cs.length c, .agg #[.int .i64 p, .int .i64 l]] W fun e w' => e = .returned (.bool false) ∧ Below W.heap.size W w') := fun W hW => by
        have := provedI_any A c cs p l W B (by have := hW.size; omega) (h.below hW hB); rwa [hp] at this
      clear hp
      go_enter Try.func39, Try.ntmps39
      go_wp2_with fail
      have hbW := bel1 w (.cells #[.int .i64 p, .int .i64 l] 27)
      generalize w.alloc (.cells #[.int .i64 p, .int .i64 l] 27) = W at *
      ((with_reducible refine (HP.out _ hbW).mono ?_); rintro e w1 ⟨rfl, hb1⟩)
      have g1 := gtr hbW hb1
      have HN := Lib.hid (World.ownsRow_nil w1 w.heap.size 3 1)
      go_wp2
      go_ret2
      exact ⟨none, 0, rfl, HN.out, g1⟩
    · have HP : Hid (∀ W, Below w.heap.size w W → Calls Try.prog 25 #[.slice A cs.length c, .agg #[.int .i64 p, .int .i64 l]] W fun e w' => e = .returned (.bool false) ∧ Below W.heap.size W w') := fun W hW => by
        have := provedS_any A c cs p l W B (by have := hW.size; omega) (h.below hW hB); rwa [hp] at this
      clear hp
      go_enter Try.func36, Try.ntmps36
      go_wp2_with fail
      have hbW := bel1 w (.cells #[.int .i64 p, .int .i64 l] 27)
      generalize w.alloc (.cells #[.int .i64 p, .int .i64 l] 27) = W at *
      ((with_reducible refine (HP.out _ hbW).mono ?_); rintro e w1 ⟨rfl, hb1⟩)
      have g1 := gtr hbW hb1
      go_wp2
      go_ret2
      exact ⟨none, 0, rfl, Rd.nil, g1⟩
  · obtain ⟨f1, f2, f3, f4, _⟩ := seen_facts hp
    obtain ⟨p, rfl⟩ := Int.eq_ofNat_of_zero_le f2
    obtain ⟨l, rfl⟩ := Int.eq_ofNat_of_zero_le (show 0 ≤ l by omega)
    exact ⟨putAll (rowL cs p l), true, putAll_len _ _ (by rw [rowL_len]; omega), fun A c w B hB h => seenI_good A c cs p l w B hB h hp, fun A c w B hB h => seenS_good A c cs p l w B hB h hp⟩

set_option maxRecDepth 100000 in
set_option maxHeartbeats 3200000 in
theorem lawSeenIn (a : Option Addr) (len cap : Nat) (zs : List Int) (p l : Int) (w : World) (h : IsRow .i64 w a len cap zs) (hp : (Lit.int .i64 p).wf = true) (hl : (Lit.int .i64 l).wf = true) :
    Calls Try.prog 8 #[.slice a len cap, .agg #[.int .i64 p, .int .i64 l]] w fun e w' => e = .returned (.bool true) ∧ Below w.heap.size w w' := by
  clear hp hl
  obtain ⟨hr, hl⟩ := h.rd
  clear h
  generalize zs.take len = xs at hr hl
  subst hl
  have h1 := hr.len
  have h2 := hr.max
  by_cases hbig : 1048576 < xs.length
  · go_enter Try.func8, Try.ntmps8
    go_wp2
    go_ret
    exact ⟨rfl, (Below.refl _ _).alloc (Nat.le_refl _) _⟩
  · have hsm : xs.length ≤ 1048576 := by omega
    obtain ⟨S, b, hS, hI0, hS0⟩ := seen_ex xs p l
    have HSI := Lib.hid hI0; have HSS := Lib.hid hS0; clear hI0 hS0
    go_enter Try.func8, Try.ntmps8
    go_wp2_with fail
    have hzW : w.heap.size < (w.alloc (.cells #[.int .i64 p, .int .i64 l] 57)).heap.size := by simp
    have hAW : Below w.heap.size w (w.alloc (.cells #[.int .i64 p, .int .i64 l] 57)) := (Below.refl _ _).alloc (Nat.le_refl _) _
    have c0W : (w.alloc (.cells #[.int .i64 p, .int .i64 l] 57)).cell? ⟨w.heap.size, 0, none⟩ = some (.int .i64 p) := by simp [go_sem]
    have c1W : (w.alloc (.cells #[.int .i64 p, .int .i64 l] 57)).cell? ⟨w.heap.size, 1, none⟩ = some (.int .i64 l) := by simp [go_sem]
    generalize w.alloc (.cells #[.int .i64 p, .int .i64 l] 57) = W at *
    have hzz := hAW.size
    have hs := fun w' (hg : Below W.heap.size W w') => (hg.cell (p := ⟨w.heap.size, 0, none⟩) hzW).trans c0W
    have hs' := fun w' (hg : Below W.heap.size W w') => (hg.cell (p := ⟨w.heap.size, 1, none⟩) hzW).trans c1W
    have HS := Lib.hid hs; have HS' := Lib.hid hs'; clear hs hs'
    have hrW := hr.below hAW (Nat.le_refl _)
    go_region_held3 (fun w' => w'.cell? ⟨w.heap.size, 0, none⟩ = some (.int .i64 p) ∧ w'.cell? ⟨w.heap.size, 1, none⟩ = some (.int .i64 l)) (go_keep)
      (first
        | (go_at_call 37; refine (toIntS_any _ _ _ W.drew _ hzz (hrW.below (gdrew (a := W)) hzz) hsm).mono ?_; rintro e w1 ⟨A1, c1, rfl, ho1, hb1⟩; have g1 := gtr (gdrew (a := W)) hb1; have s0 := HS.out _ g1; have s1 := HS'.out _ g1)
        | (go_at_call 38; refine (toPeriod_any _ _ _).mono ?_; rintro e w2 ⟨rfl, hb2⟩; have g2 := gtr g1 hb2; have t0 := HS.out _ g2; have t1 := HS'.out _ g2)
        | (go_at_call 36; refine (HSS.out _ _ _ _ hb2.size ((ho1.rd rfl).below hb2 (Nat.le_refl _))).mono ?_; rintro e w3 ⟨A3, c3, rfl, hr3, hb3⟩; have g3 := gtr g2 hb3; have u0 := HS.out _ g3; have u1 := HS'.out _ g3))
    clear ho1 hb1 hb2 hb3 s0 s1 t0 t1
    have hz3 := g3.size
    go_wp2_with fail
    ((with_reducible refine (toIntS_any _ _ _ _ _ (Nat.le_trans hzz g3.size) (hrW.below g3 hzz) hsm).mono ?_); rintro e w4 ⟨A4, c4, rfl, ho4, hb4⟩)
    have g4 := gtr g3 hb4
    have hblk4 : ∀ k, (Value.slice A4 xs.length c4).ownBlock = some k → k < w4.heap.size := fun k hk => ((own_ints.1 ho4).lt k hk).2
    have v0 := HS.out _ g4; have v1 := HS'.out _ g4
    clear u0 u1
    go_wp2_with fail
    ((with_reducible refine (toPeriod_any _ _ _).mono ?_); rintro e w5 ⟨rfl, hb5⟩)
    have g5 := gtr g4 hb5
    have ho5 := ho4.below hb5
    go_wp2_with fail
    ((with_reducible refine (HSI.out _ _ _ _ (Nat.le_refl _) (ho5.rd rfl)).mono ?_); rintro e w6 ⟨A6, c6, rfl, ho6, hb6⟩)
    have g6 := gtr g5 hb6
    have hx6 := ho5.below hb6
    have hr6 := (RdI.below (hr3.below hb4 (Nat.le_refl _)) hb5 hb4.size).below hb6 (by have := hb4.size; have := hb5.size; omega)
    clear v0 v1
    have hz4 := hb4.size
    have hz5 := hb5.size
    have hz6 := hb6.size
    have hoo6 := own_ints.1 hx6
    clear hx6 ho5 ho4 hr3 hb4 hb5 hb6
    cases b
    all_goals
      go_wp2_with fail
      ((with_reducible refine (eqIntS_any _ _ _ _ _ _ _ _ (Nat.le_refl _) ((own_ints.2 ho6).rd rfl) (hr6.more (by omega))).mono ?_); rintro e w7 ⟨rfl, hb7⟩)
      have g7 := gtr g6 hb7
      have hz7 := hb7.size
      have ho7 := ho6.below hb7
      have hx7 := hoo6.below hb7
      have hr7 := hr6.below hb7 (by omega)
      clear ho6 hoo6 hr6 hb7
      go_wp2_with fail
      ((with_reducible refine (toIntS_any _ _ _ _ _ (Nat.le_trans hzz g7.size) (hrW.below g7 hzz) hsm).mono ?_); rintro e w8 ⟨A8, c8, rfl, hy8, hb8⟩)
      have g8 := gtr g7 hb8
      have hz8 := hb8.size
      have ho8 := ho7.below hb8
      have hx8 := hx7.below hb8
      have hr8 := hr7.below hb8 (by omega)
      clear ho7 hx7 hr7 hb8
      go_wp2_with fail
      ((with_reducible refine (eqIntS_any _ _ _ _ _ _ _ _ (Nat.le_refl _) ((own_ints.2 hx8).rd rfl) (hy8.rd rfl)).mono ?_); rintro e w9 ⟨rfl, hb9⟩)
      have g9 := gtr g8 hb9
      have hz9 := hb9.size
      have ho9 := ho8.below hb9
      have hx9 := hx8.below hb9
      have hr9 := hr8.below hb9 (by omega)
      clear ho8 hx8 hr8 hb9 hy8
      have hb46 : ∀ k, (Value.slice A4 xs.length c4).ownBlock = some k → w3.heap.size ≤ k ∧ k < w4.heap.size := fun k hk => ⟨(hx9.lt k hk).1, hblk4 k hk⟩
      have HB46 := Lib.hid hb46; clear hb46
      go_wp2_with fail
      ((with_reducible refine (markRow_any _ _ _ _ _ _ hx9 (by decide) (by omega)).mono ?_); rintro e w10 ⟨rfl, _, hg10⟩)
      have hz10 := hg10.size
      have g10 : Below W.heap.size W w10 := g9.grown hg10 (by have := g9.size; omega) fun k hk => by have := HB46.out k hk; omega
      have hne6 : (Value.slice A6 S.length c6).ownBlock = none ∨ (Value.slice A6 S.length c6).ownBlock ≠ (Value.slice A4 xs.length c4).ownBlock := by
        rcases hob : (Value.slice A6 S.length c6).ownBlock with _ | k
        · exact .inl rfl
        · refine .inr fun e => ?_
          have := (ho9.lt k hob).1
          have := HB46.out k e.symm
          omega
      have ho10 := ho9.grown hg10 hne6
      have hr10 : RdI w10 w3.heap.size A3 c3 S := Rd.grown (lo := 0) hr9 (fun _ _ => Nat.zero_le _) hg10 (by omega) fun k hk => .inr (HB46.out k hk).1
      clear ho9 hx9 hr9 hg10 hne6
      go_wp2_with fail
      ((with_reducible refine (eqIntS_any _ _ _ _ _ _ _ _ (Nat.le_refl _) ((own_ints.2 ho10).rd rfl) (hr10.more (by omega))).mono ?_); rintro e w11 ⟨rfl, hb11⟩)
      have g11 := gtr g10 hb11
      have hz11 := hb11.size
      have ho11 := ho10.below hb11
      have hr11 := hr10.below hb11 (by omega)
      clear ho10 hr10 hb11
      have hb6k : ∀ k, (Value.slice A6 S.length c6).ownBlock = some k → w5.heap.size ≤ k := fun k hk => (ho11.lt k hk).1
      go_wp2_with fail
      ((with_reducible refine (markRow_any _ _ _ _ _ _ ho11 (by decide) (by omega)).mono ?_); rintro e w12 ⟨rfl, ho12, hg12⟩)
      have hz12 := hg12.size
      have g12 : Below W.heap.size W w12 := g11.grown hg12 (by have := g11.size; omega) fun k hk => by have := hb6k k hk; omega
      have hr12 : RdI w12 w3.heap.size A3 c3 S := Rd.grown (lo := 0) hr11 (fun _ _ => Nat.zero_le _) hg12 (by omega) fun k hk => .inr (by have := hb6k k hk; omega)
      clear ho11 hr11 hg12 hb6k
      have hnr : RdI w12 w12.heap.size A6 c6 (numRow 1 S.length) := RdI.of_own ho12
      go_wp2_with fail
      ((with_reducible refine (heldRow_any _ _ _ _ _ _ hnr (by decide) (by omega)).mono ?_); rintro e w12' ⟨rfl, rfl⟩)
      have hrW12 := hrW.below g12 hzz
      have hzz2 : w.heap.size ≤ w12.heap.size := Nat.le_trans hzz g12.size
      have HSd : Hid (∀ w', Below w12.heap.size w12 w' → w'.cell? ⟨w.heap.size, 0, none⟩ = some (.int .i64 p) ∧ w'.cell? ⟨w.heap.size, 1, none⟩ = some (.int .i64 l)) := fun w' hb => ⟨HS.out _ (gtr g12 hb), HS'.out _ (gtr g12 hb)⟩
      have v0 := HS.out _ g12; have v1 := HS'.out _ g12
      go_wp2
      go_region_held3 (fun w' => w'.cell? ⟨w.heap.size, 0, none⟩ = some (.int .i64 p) ∧ w'.cell? ⟨w.heap.size, 1, none⟩ = some (.int .i64 l)) (go_keep)
        (first
          | (go_at_call 37; refine (toIntS_any _ _ _ w12.drew _ (Nat.le_trans hzz g12.size) (hrW12.below (gdrew (a := w12)) hzz2) hsm).mono ?_; rintro e w13 ⟨A13, c13, rfl, ho13, hb13⟩; have q13 := gtr (gdrew (a := w12)) hb13; have s0 := (HSd.out _ q13).1; have s1 := (HSd.out _ q13).2)
          | (go_at_call 38; refine (toPeriod_any _ _ _).mono ?_; rintro e w14 ⟨rfl, hb14⟩; have q14 := gtr q13 hb14; have t0 := (HSd.out _ q14).1; have t1 := (HSd.out _ q14).2)
          | (go_at_call 39; refine (HSI.out _ _ _ _ hb14.size ((ho13.rd rfl).below hb14 (Nat.le_refl _))).mono ?_; rintro e w15 ⟨A15, c15, rfl, ho15, hb15⟩; have q15 := gtr q14 hb15; have u0 := (HSd.out _ q15).1; have u1 := (HSd.out _ q15).2))
      clear ho13 hb13 hb14 hb15 s0 s1 t0 t1 u0 u1 v0 v1
      have hr15 := hr12.below q15 (by omega)
      have hn15 := hnr.below q15 (Nat.le_refl _)
      have g15 := gtr g12 q15
      have hz15 := q15.size
      go_wp2_with fail
      ((with_reducible refine (eqIntS_any _ _ _ _ _ _ _ _ (Nat.le_refl _) ((own_ints.2 ho15).rd rfl) (hr15.more (by omega))).mono ?_); rintro e w16 ⟨rfl, hb16⟩)
      have g16 := gtr g15 hb16
      have hn16 := hn15.below hb16 (by omega)
      go_wp2_with fail
      ((with_reducible refine (heldRow_any _ _ _ _ _ _ hn16 (by decide) (by omega)).mono ?_); rintro e w17 ⟨rfl, rfl⟩)
      go_wp2
      go_ret
      exact ⟨rfl, gtr hAW g16⟩
end Go.Proofs.Ytmdnbmdkommmkaa
