/- FnExactLosingClasses returns true: the walk. Conditions: none. -/
import Derived.Test.YtbledcogbkeneaaLoS
namespace Go.Proofs.Ytbledcogbkeneaa
open Go.RowKit Go.Maps
set_option linter.unusedVariables false

noncomputable def qoB (cs : List Int) (s m : Int) : Bool := goodCodeB cs && goodBoxB s m
noncomputable def loV (cs : List Int) (s m : Int) : List Int := if qoB cs s m = true then los cs (allTo s.toNat (m.toNat + 1)) (allTo s.toNat (m.toNat + 1)).length else []
theorem loV_no {cs : List Int} {s m : Int} (h : qoB cs s m = false) : loV cs s m = [] := by rw [loV, h]; rfl
theorem loV_yes {cs : List Int} {a b : Nat} (h : qoB cs a b = true) : loV cs a b = los cs (allTo a (b + 1)) (allTo a (b + 1)).length := by rw [loV, h]; simp
theorem loV_len (cs : List Int) (s m : Int) : (loV cs s m).length ≤ 823543 := by
  unfold loV
  split
  · rename_i h
    unfold qoB at h
    rw [Bool.and_eq_true] at h
    obtain ⟨a, b, rfl, rfl, h1, h2, h3, h4, -⟩ := goodBox_of h.2
    rw [Int.toNat_natCast, Int.toNat_natCast]
    exact Nat.le_trans (los_len _ _ _) (allTo_le a h2 (b + 1) (by omega))
  · simp
theorem RdI.of_own {w : World} {base : Nat} {A : Option Addr} {n c : Nat} {k : Int} (h : Own w base 3 (.slice A n c) (ints (numRow k n))) : RdI w w.heap.size A c (numRow k n) := Own.rd h
theorem rdi_nil (w : World) (B : Nat) : RdI w B none 0 [] := Rd.nil

set_option maxRecDepth 100000 in
set_option maxHeartbeats 1600000 in
theorem losOfI_any (A : Option Addr) (c : Nat) (s m : Int) (cs : List Int) (w : World) (B : Nat) (hB : B ≤ w.heap.size) (h : RdI w B A c cs) :
    Calls Try.prog 14 #[.slice A cs.length c, .agg #[.int .i64 s, .int .i64 m]] w fun e w' => ∃ A3 c3, e = .returned (.tuple #[.slice A3 (loV cs s m).length c3, .bool (qoB cs s m)]) ∧ OwnI w' w.heap.size (.slice A3 (loV cs s m).length c3) (loV cs s m) ∧ Below w.heap.size w w' := by
  have HGB := Lib.hid fun W => goodBoxI_any s m W
  have HGC := Lib.hid fun W (hW : Below w.heap.size w W) => goodCodeI_any A c cs W B (h.below hW hB)
  rcases hc : goodCodeB cs with _ | _
  · have hb : qoB cs s m = false := by rw [qoB, hc]; rfl
    rw [hb, loV_no hb]
    rw [hc] at HGC
    clear hc hb
    go_enter Try.func14, Try.ntmps14
    go_wp2_with (go_at_call 37; (with_reducible refine (HGC.out _ (bel1 _ _)).mono ?_); rintro e w1 ⟨rfl, rfl⟩)
    go_ret2
    exact ⟨none, 0, rfl, own_ints.2 (own_nil _ _ _), bel1 _ _⟩
  · rw [hc] at HGC
    rcases hbx : goodBoxB s m with _ | _
    · have hb : qoB cs s m = false := by rw [qoB, hc, hbx]; rfl
      rw [hb, loV_no hb]
      rw [hbx] at HGB
      clear hc hb hbx
      go_enter Try.func14, Try.ntmps14
      go_wp2_with (first | (go_at_call 37; (with_reducible refine (HGC.out _ (bel1 _ _)).mono ?_); rintro e w1 ⟨rfl, rfl⟩) | (go_at_call 38; (with_reducible refine (HGB.out _).mono ?_); rintro e w2 ⟨rfl, hb2⟩))
      go_ret2
      exact ⟨none, 0, rfl, own_ints.2 (own_nil _ _ _), gtr (bel1 _ _) hb2⟩
    · have hb : qoB cs s m = true := by rw [qoB, hc, hbx]; rfl
      rw [hb]
      rw [hbx] at HGB
      obtain ⟨a, b, rfl, rfl, h1, h2, h3, h4, h5⟩ := goodBox_of hbx
      rw [loV_yes hb]
      have HG := Lib.hid (goodCodeB_true.1 hc)
      have HR := Lib.hid h
      clear hc hb hbx h
      have HQ := Lib.hid fun (bM : Nat) (hBb : B ≤ bM) (W' : World) (K : List (List Int)) (hM : MapM W' bM cs K) (hcode : RdI W' B A c cs) => losersI_any cs HG.out A c B bM hBb a b h2 h4 h5 W' K hM hcode
      obtain ⟨R, hR⟩ : ∃ R, R = los cs (allTo a (b + 1)) (allTo a (b + 1)).length := ⟨_, rfl⟩
      rw [← hR] at HQ ⊢
      clear hR
      go_enter Try.func14, Try.ntmps14
      go_wp2_with (first
        | (go_at_call 37; (with_reducible refine (HGC.out _ (bel1 _ _)).mono ?_); rintro e w1 ⟨rfl, rfl⟩)
        | (go_at_call 38; (with_reducible refine (HGB.out _).mono ?_); rintro e w1 ⟨rfl, hb1⟩; have B1 := Lib.hid ((Blk.new w 28 #[.int .i64 (a : Int), .int .i64 (b : Int)]).below hb1 (by simp)); have c0 : w1.cell? ⟨w.heap.size, 0, none⟩ = some (.int .i64 (a : Int)) := B1.out.cell 0; have c1 : w1.cell? ⟨w.heap.size, 1, none⟩ = some (.int .i64 (b : Int)) := B1.out.cell 1; have hz1 := hb1.size; simp at hz1; have HG1 := Lib.hid (gtr (bel1 w (.cells #[.int .i64 (a : Int), .int .i64 (b : Int)] 28)) hb1); clear hb1))
      go_region_held3 (fun w' => w'.cell? ⟨w.heap.size, 0, none⟩ = some (.int .i64 (a : Int)) ∧ w'.cell? ⟨w.heap.size, 1, none⟩ = some (.int .i64 (b : Int))) (go_keep)
        (first
          | (go_at_call 32; refine (newM_any A c cs _).mono ?_; rintro e w2 ⟨bM, rfl, hbw, hM2, hb2⟩; have g2 := gtr (gdrew (a := w1)) hb2; have B2 := Lib.hid (B1.out.below g2 (by omega)); have s2 : w2.cell? ⟨w.heap.size, 0, none⟩ = some (.int .i64 (a : Int)) := B2.out.cell 0; have s2' : w2.cell? ⟨w.heap.size, 1, none⟩ = some (.int .i64 (b : Int)) := B2.out.cell 1)
          | (go_at_call 39; refine (HQ.out bM (by have hbw' : w1.heap.size ≤ bM := hbw; omega) w2 [] hM2 ((HR.out.below HG1.out hB).below g2 (by omega))).mono ?_; rintro e w3 ⟨⟨A3, c3, rfl, ho3⟩, ⟨K3, hM3⟩, hg3⟩; have B3 := Lib.hid (B2.out.grown hg3 (by have hbw' : w1.heap.size ≤ bM := hbw; simp; omega)); have s3 : w3.cell? ⟨w.heap.size, 0, none⟩ = some (.int .i64 (a : Int)) := B3.out.cell 0; have s3' : w3.cell? ⟨w.heap.size, 1, none⟩ = some (.int .i64 (b : Int)) := B3.out.cell 1))
      all_goals
        have hbw' : w1.heap.size ≤ bM := hbw
        have hz2 := g2.size
        have HE := Lib.hid ((HG1.out.trans (g2.mono (by omega))).grown hg3 (by omega) (fun k hk => by injection hk with hk; omega))
        have HO := Lib.hid (ho3.le (show w.heap.size ≤ w2.heap.size by omega))
        clear ho3 hg3 hM3 hM2 hb2 g2 s2 s2' s3 s3' B2 B3 B1 c0 c1
        go_wp2
        go_ret2
        exact ⟨A3, c3, rfl, own_ints.2 HO.out, HE.out⟩

set_option maxRecDepth 100000 in
set_option maxHeartbeats 1600000 in
theorem losOfS_any (A : Option Addr) (c : Nat) (s m : Int) (cs : List Int) (w : World) (B : Nat) (hB : B ≤ w.heap.size) (h : RdI w B A c cs) :
    Calls Try.prog 13 #[.slice A cs.length c, .agg #[.int .i64 s, .int .i64 m]] w fun e w' => ∃ A3 c3, e = .returned (.tuple #[.slice A3 (loV cs s m).length c3, .bool (qoB cs s m)]) ∧ RdI w' w'.heap.size A3 c3 (loV cs s m) ∧ Below w.heap.size w w' := by
  have HGB := Lib.hid fun W => goodBoxS_any s m W
  have HGC := Lib.hid fun W (hW : Below w.heap.size w W) => goodCodeS_any A c cs W B (h.below hW hB)
  rcases hc : goodCodeB cs with _ | _
  · have hb : qoB cs s m = false := by rw [qoB, hc]; rfl
    rw [hb, loV_no hb]
    rw [hc] at HGC
    clear hc hb
    go_enter Try.func13, Try.ntmps13
    go_wp2_with (go_at_call 34; (with_reducible refine (HGC.out _ (bel1 _ _)).mono ?_); rintro e w1 ⟨rfl, rfl⟩)
    go_ret2
    exact ⟨none, 0, rfl, rdi_nil _ _, bel1 _ _⟩
  · rw [hc] at HGC
    rcases hbx : goodBoxB s m with _ | _
    · have hb : qoB cs s m = false := by rw [qoB, hc, hbx]; rfl
      rw [hb, loV_no hb]
      rw [hbx] at HGB
      clear hc hb hbx
      go_enter Try.func13, Try.ntmps13
      go_wp2_with (first | (go_at_call 34; (with_reducible refine (HGC.out _ (bel1 _ _)).mono ?_); rintro e w1 ⟨rfl, rfl⟩) | (go_at_call 35; (with_reducible refine (HGB.out _).mono ?_); rintro e w2 ⟨rfl, hb2⟩))
      go_ret2
      exact ⟨none, 0, rfl, rdi_nil _ _, gtr (bel1 _ _) hb2⟩
    · have hb : qoB cs s m = true := by rw [qoB, hc, hbx]; rfl
      rw [hb]
      rw [hbx] at HGB
      obtain ⟨a, b, rfl, rfl, h1, h2, h3, h4, h5⟩ := goodBox_of hbx
      rw [loV_yes hb]
      have HG := Lib.hid (goodCodeB_true.1 hc)
      have HR := Lib.hid h
      clear hc hb hbx h
      have HQ := Lib.hid fun (g gk gv : Nat) (h1 : B ≤ gk) (h1' : B ≤ gv) (W' : World) (ks vs : List Int) (hM : BookM W' g gk gv A c cs ks vs) (hcode : RdI W' B A c cs) => losersS_any cs HG.out A c B g gk gv h1 h1' a b h2 h4 h5 W' ks vs hM hcode
      obtain ⟨R, hR⟩ : ∃ R, R = los cs (allTo a (b + 1)) (allTo a (b + 1)).length := ⟨_, rfl⟩
      rw [← hR] at HQ ⊢
      clear hR
      go_enter Try.func13, Try.ntmps13
      go_wp2_with (first
        | (go_at_call 34; (with_reducible refine (HGC.out _ (bel1 _ _)).mono ?_); rintro e w1 ⟨rfl, rfl⟩)
        | (go_at_call 35; (with_reducible refine (HGB.out _).mono ?_); rintro e w1 ⟨rfl, hb1⟩; have B1 := Lib.hid ((Blk.new w 28 #[.int .i64 (a : Int), .int .i64 (b : Int)]).below hb1 (by simp)); have c0 : w1.cell? ⟨w.heap.size, 0, none⟩ = some (.int .i64 (a : Int)) := B1.out.cell 0; have c1 : w1.cell? ⟨w.heap.size, 1, none⟩ = some (.int .i64 (b : Int)) := B1.out.cell 1; have hz1 := hb1.size; simp at hz1; have HG1 := Lib.hid (gtr (bel1 w (.cells #[.int .i64 (a : Int), .int .i64 (b : Int)] 28)) hb1); clear hb1))
      go_region_held3 (fun w' => w'.cell? ⟨w.heap.size, 0, none⟩ = some (.int .i64 (a : Int)) ∧ w'.cell? ⟨w.heap.size, 1, none⟩ = some (.int .i64 (b : Int))) (go_keep)
        (first
          | (go_at_call 27; refine (new_any A c cs _).mono ?_; rintro e w2 ⟨g, gk, gv, rfl, hg1, hg2', hg3', hM2, hb2⟩; have g2 := gtr (gdrew (a := w1)) hb2; have B2 := Lib.hid (B1.out.below g2 (by omega)); have s2 : w2.cell? ⟨w.heap.size, 0, none⟩ = some (.int .i64 (a : Int)) := B2.out.cell 0; have s2' : w2.cell? ⟨w.heap.size, 1, none⟩ = some (.int .i64 (b : Int)) := B2.out.cell 1)
          | (go_at_call 36; refine (HQ.out g gk gv (by have hbw' : w1.heap.size ≤ gk := hg2'; omega) (by have hbw' : w1.heap.size ≤ gv := hg3'; omega) w2 _ _ hM2 ((HR.out.below HG1.out hB).below g2 (by omega))).mono ?_; rintro e w3 ⟨⟨A3, c3, rfl, ho3⟩, ⟨ks3, vs3, hM3⟩, hT3⟩; have B4 := Lib.hid (B2.out.tw hT3 (by have hk' : w1.heap.size ≤ gk := hg2'; omega) (by have hv' : w1.heap.size ≤ gv := hg3'; omega)); have s3 : w3.cell? ⟨w.heap.size, 0, none⟩ = some (.int .i64 (a : Int)) := B4.out.cell 0; have s3' : w3.cell? ⟨w.heap.size, 1, none⟩ = some (.int .i64 (b : Int)) := B4.out.cell 1))
      all_goals
        have hk' : w1.heap.size ≤ gk := hg2'
        have hv' : w1.heap.size ≤ gv := hg3'
        have hz2 := g2.size
        have HE := Lib.hid (Tw.below (HG1.out.trans (g2.mono (by omega))) hT3 (by omega) (by omega))
        have HO := Lib.hid ho3
        clear ho3 hT3 hM3 hM2 hb2 g2 s2 s2' s3 s3' B2 B4 B1 c0 c1
        go_wp2
        go_ret2
        exact ⟨A3, c3, rfl, HO.out, HE.out⟩

set_option maxRecDepth 100000 in
set_option maxHeartbeats 3200000 in
theorem lawLosing (a : Option Addr) (len cap : Nat) (zs : List Int) (s m : Int) (w : World) (h : IsRow .i64 w a len cap zs) (hp : (Lit.int .i64 s).wf = true) (hl : (Lit.int .i64 m).wf = true) :
    Calls Try.prog 4 #[.slice a len cap, .agg #[.int .i64 s, .int .i64 m]] w fun e w' => e = .returned (.bool true) ∧ Below w.heap.size w w' := by
  clear hp hl
  obtain ⟨hr, hl⟩ := h.rd
  clear h
  generalize zs.take len = xs at hr hl
  subst hl
  have h1 := hr.len
  have h2 := hr.max
  by_cases hbig : 1048576 < xs.length
  · go_enter Try.func4, Try.ntmps4
    go_wp2
    go_ret
    first | exact ⟨rfl, Below.refl _ _⟩ | exact ⟨rfl, bel1 _ _⟩
  have hsm : xs.length ≤ 1048576 := by omega
  have HS := Lib.hid fun A c W => losOfS_any A c s m xs W W.heap.size (Nat.le_refl _)
  have HI := Lib.hid fun A c W => losOfI_any A c s m xs W W.heap.size (Nat.le_refl _)
  have hRl := loV_len xs s m
  obtain ⟨R, hR⟩ : ∃ R, R = loV xs s m := ⟨_, rfl⟩
  obtain ⟨ok, hok⟩ : ∃ ok, ok = qoB xs s m := ⟨_, rfl⟩
  rw [← hR, ← hok] at HS HI
  rw [← hR] at hRl
  clear hR hok
  have hbe : (ok != ok) = false := by cases ok <;> rfl
  have hRR : decide (R = R) = true := decide_eq_true rfl
  have hxx : decide (xs = xs) = true := decide_eq_true rfl
  go_enter Try.func4, Try.ntmps4
  go_wp2_with fail
  have hzW : w.heap.size < (w.alloc (.cells #[.int .i64 s, .int .i64 m] 24)).heap.size := by simp
  have hAW : Below w.heap.size w (w.alloc (.cells #[.int .i64 s, .int .i64 m] 24)) := (Below.refl _ _).alloc (Nat.le_refl _) _
  have c0W : (w.alloc (.cells #[.int .i64 s, .int .i64 m] 24)).cell? ⟨w.heap.size, 0, none⟩ = some (.int .i64 s) := by simp [go_sem]
  have c1W : (w.alloc (.cells #[.int .i64 s, .int .i64 m] 24)).cell? ⟨w.heap.size, 1, none⟩ = some (.int .i64 m) := by simp [go_sem]
  generalize w.alloc (.cells #[.int .i64 s, .int .i64 m] 24) = W at *
  have hzz := hAW.size
  have HC0 := Lib.hid fun w' (hg : Below W.heap.size W w') => (hg.cell (p := ⟨w.heap.size, 0, none⟩) hzW).trans c0W
  have HC1 := Lib.hid fun w' (hg : Below W.heap.size W w') => (hg.cell (p := ⟨w.heap.size, 1, none⟩) hzW).trans c1W
  have HAW := Lib.hid hAW
  have hrW := (hr.below hAW (Nat.le_refl _)).more hzz
  clear hr
  have hr := hrW
  clear hrW hAW
  have g0 := Below.refl W.heap.size W
  have v0 := HC0.out _ g0
  have v1 := HC1.out _ g0
  go_region_held3 (fun w' => w'.cell? ⟨w.heap.size, 0, none⟩ = some (.int .i64 s) ∧ w'.cell? ⟨w.heap.size, 1, none⟩ = some (.int .i64 m)) (go_keep)
    (first
      | (go_at_call 9; refine (toIntS_any _ _ xs W.drew _ g0.size (hr.below (g0.trans (gdrew (a := W) |>.mono g0.size)) (Nat.le_refl _)) hsm).mono ?_; rintro e w1 ⟨A1, c1, rfl, ho1, hb1⟩; have g1 := gtr g0 (gtr (gdrew (a := W)) hb1); have s0 := HC0.out _ g1; have s1 := HC1.out _ g1)
      | (go_at_call 10; refine (toBox_any s m _).mono ?_; rintro e wa ⟨rfl, hba⟩; have ga := gtr g1 hba; have t0 := HC0.out _ ga; have t1 := HC1.out _ ga)
      | (go_at_call 13; refine (HS.out A1 c1 _ ((ho1.below hba).rd rfl)).mono ?_; rintro e w3 ⟨A3, c3, rfl, ho3, hb3⟩; have g3 := gtr ga hb3; have x0 := HC0.out _ g3; have x1 := HC1.out _ g3))
  have hz3 := hb3.size
  have hs3 : RdI w3 w3.heap.size A3 c3 R := ho3
  clear ho1 hb1 hba ho3 hb3 s0 s1 t0 t1 x0 x1 v0 v1
  go_wp2_with fail
  ((with_reducible refine (toIntS_any _ _ xs _ _ g3.size (hr.below g3 (Nat.le_refl _)) hsm).mono ?_); rintro e w4 ⟨A4, c4, rfl, ho4, hb4⟩)
  have g4 := gtr g3 hb4
  have hz4 := hb4.size
  have hs4 := hs3.below hb4 (Nat.le_refl _)
  have HBLK4 : Hid (∀ k, (Value.slice A4 xs.length c4).ownBlock = some k → w3.heap.size ≤ k ∧ k < w4.heap.size) := fun k hk => (own_ints.1 ho4).lt k hk
  have v0 := HC0.out _ g4
  have v1 := HC1.out _ g4
  clear hs3 hb4
  go_wp2_with fail
  ((with_reducible refine (toBox_any s m _).mono ?_); rintro e wb ⟨rfl, hbb⟩)
  clear v0 v1
  have gb := gtr g4 hbb
  have hzb := hbb.size
  have hsb := hs4.below hbb (by omega)
  have hxb := ho4.below hbb
  clear hs4 ho4 hbb
  go_wp2_with fail
  ((with_reducible refine (HI.out A4 c4 _ (hxb.rd rfl)).mono ?_); rintro e w6 ⟨A6, c6, rfl, ho6, hb6⟩)
  have g6 := gtr gb hb6
  have hz6 := hb6.size
  have hx6 := hxb.below hb6
  have hs6 := hsb.below hb6 (by omega)
  clear hxb hsb hb6
  go_wp2_with fail
  ((with_reducible refine (eqIntS_any _ _ _ _ R R _ _ (Nat.le_refl _) (ho6.rd rfl) (hs6.more (by omega))).mono ?_); rintro e w7 ⟨rfl, hb7⟩)
  have g7 := gtr g6 hb7
  have hz7 := hb7.size
  have ho7 := ho6.below hb7
  have hx7 := hx6.below hb7
  have hs7 := hs6.below hb7 (by omega)
  clear ho6 hx6 hs6 hb7
  go_wp2_with fail
  ((with_reducible refine (toIntS_any _ _ xs _ _ g7.size (hr.below g7 (Nat.le_refl _)) hsm).mono ?_); rintro e w8 ⟨A8, c8, rfl, hm8, hb8⟩)
  have g8 := gtr g7 hb8
  have hz8 := hb8.size
  have ho8 := ho7.below hb8
  have hx8 := hx7.below hb8
  have hs8 := hs7.below hb8 (by omega)
  clear ho7 hx7 hs7 hb8
  go_wp2_with fail
  ((with_reducible refine (eqIntS_any _ _ _ _ xs xs _ _ (Nat.le_refl _) (hx8.rd rfl) (hm8.rd rfl)).mono ?_); rintro e wB ⟨rfl, hbB⟩)
  have gB := gtr g8 hbB
  have hzB := hbB.size
  have hoB := own_ints.1 (ho8.below hbB)
  have hxB := own_ints.1 (hx8.below hbB)
  have hsB := hs8.below hbB (by omega)
  clear ho8 hx8 hs8 hbB hm8
  go_wp2_with fail
  ((with_reducible refine (markRow_any _ _ _ _ _ _ hxB (by decide) (by omega)).mono ?_); rintro e wC ⟨rfl, _, hgC⟩)
  have hzC := hgC.size
  have gC : Below W.heap.size W wC := gB.grown hgC (by have := gB.size; omega) fun k hk => by have := HBLK4.out k hk; have := g3.size; omega
  have hoC := hoB.grown hgC (by
    rcases hob : (Value.slice A6 R.length c6).ownBlock with _ | k
    · exact .inl rfl
    · refine .inr fun e => ?_
      have := (hoB.lt k hob).1
      have := HBLK4.out k e.symm
      omega)
  have hsC : RdI wC w3.heap.size A3 c3 R := Rd.grown (lo := 0) hsB (fun _ _ => Nat.zero_le _) hgC (by omega) fun k hk => .inr (HBLK4.out k hk).1
  clear hoB hsB hgC hxB
  have hkk : ¬ (1 : Int) + (xs.length : Int) < 0 := by omega
  have rC := own_ints.2 hoC
  go_wp2_with fail
  ((with_reducible refine (eqIntS_any _ _ _ _ R R _ _ (Nat.le_refl _) (rC.rd rfl) (hsC.more (by omega))).mono ?_); rintro e wE ⟨rfl, hbE⟩)
  have gE := gtr gC hbE
  have hzE := hbE.size
  have hoE := hoC.below hbE
  have hsE := hsC.below hbE (by omega)
  clear hoC hsC hbE rC
  have hb6k : ∀ k, (Value.slice A6 R.length c6).ownBlock = some k → wb.heap.size ≤ k := fun k hk => (hoE.lt k hk).1
  go_wp2_with fail
  ((with_reducible refine (markRow_any _ _ _ _ _ _ hoE (by decide) (by omega)).mono ?_); rintro e wF ⟨rfl, hoF, hgF⟩)
  have hzF := hgF.size
  have gF : Below W.heap.size W wF := gE.grown hgF (by have := gE.size; omega) fun k hk => by have := hb6k k hk; have := gb.size; omega
  have hsF : RdI wF w3.heap.size A3 c3 R := Rd.grown (lo := 0) hsE (fun _ _ => Nat.zero_le _) hgF (by omega) fun k hk => .inr (by have := hb6k k hk; omega)
  have hnF : RdI wF wF.heap.size A6 c6 (numRow 1 R.length) := RdI.of_own hoF
  clear hoE hsE hgF hb6k hoF
  go_wp2_with fail
  ((with_reducible refine (heldRow_any _ _ _ _ _ _ hnF (by decide) (by omega)).mono ?_); rintro e wG ⟨rfl, rfl⟩)
  have hnn : ¬ 1 + (R.length : Int) < 0 := by omega
  go_wp2_with fail
  have v0 := HC0.out _ gF
  have v1 := HC1.out _ gF
  go_region_held3 (fun w' => w'.cell? ⟨w.heap.size, 0, none⟩ = some (.int .i64 s) ∧ w'.cell? ⟨w.heap.size, 1, none⟩ = some (.int .i64 m)) (go_keep)
    (first
      | (go_at_call 9; refine (toIntS_any _ _ xs wF.drew _ gF.size (hr.below (gF.trans (gdrew (a := wF) |>.mono gF.size)) (Nat.le_refl _)) hsm).mono ?_; rintro e wH ⟨AH, cH, rfl, hmH, hbH⟩; have gH := gtr gF (gtr (gdrew (a := wF)) hbH); have s0 := HC0.out _ gH; have s1 := HC1.out _ gH)
      | (go_at_call 10; refine (toBox_any s m _).mono ?_; rintro e wI ⟨rfl, hbI⟩; have gI := gtr gH hbI; have t0 := HC0.out _ gI; have t1 := HC1.out _ gI)
      | (go_at_call 14; refine (HI.out AH cH _ ((hmH.below hbI).rd rfl)).mono ?_; rintro e wK ⟨AK, cK, rfl, hoK, hbK⟩; have gK := gtr gI hbK; have x0 := HC0.out _ gK; have x1 := HC1.out _ gK))
  have hbFH : Below wF.heap.size wF wH := gtr (gdrew (a := wF)) hbH
  have hbFK : Below wF.heap.size wF wK := gtr (gtr hbFH hbI) hbK
  have hsK := hsF.below hbFK (by omega)
  have hnK := hnF.below hbFK (Nat.le_refl _)
  have hzK := hbFK.size
  clear s0 s1 t0 t1 x0 x1 v0 v1 hmH hbH hbI hbK hbFH hbFK
  go_wp2_with fail
  ((with_reducible refine (eqIntS_any _ _ _ _ R R _ _ (Nat.le_refl _) (hoK.rd rfl) (hsK.more (by omega))).mono ?_); rintro e wL ⟨rfl, hbL⟩)
  have gL := gtr gK hbL
  have hzL := hbL.size
  have hnL := hnK.below hbL (by omega)
  go_wp2_with fail
  ((with_reducible refine (heldRow_any _ _ _ _ _ _ hnL (by decide) (by omega)).mono ?_); rintro e wM ⟨rfl, rfl⟩)
  go_wp2
  go_ret
  exact ⟨rfl, gtr HAW.out gL⟩

end Go.Proofs.Ytbledcogbkeneaa
