/- FnExactSignsOf returns true: the walk. Conditions: none. -/
import Derived.Test.YtbledcogbkeneaaTgA
namespace Go.Proofs.Ytbledcogbkeneaa
open Go.RowKit Go.Maps
set_option linter.unusedVariables false

/-- The signs that are handed back. -/
noncomputable def sgV (cs : List Int) (s m : Int) (p : List Int) : List Bool := if admB cs s m p = true then sg cs (allTo s.toNat (m.toNat + 1)) p else []
theorem sgV_len (cs : List Int) (s m : Int) (p : List Int) : (sgV cs s m p).length ≤ 823543 := by
  unfold sgV
  split
  · rename_i h
    obtain ⟨a, b, rfl, rfl, h1, h2, h3, h4, -⟩ := admB_of h
    rw [sg_len, Int.toNat_natCast, Int.toNat_natCast]
    exact allTo_le a h2 (b + 1) (by omega)
  · simp
theorem sgV_no {cs : List Int} {s m : Int} {p : List Int} (h : admB cs s m p = false) : sgV cs s m p = [] := by rw [sgV, h]; rfl
theorem sgV_yes {cs : List Int} {a b : Nat} {p : List Int} (h : admB cs a b p = true) : sgV cs a b p = sg cs (allTo a (b + 1)) p := by rw [sgV, h]; simp
def TwoB (w : World) (g : Nat) (a b : Int) : Prop := w.cell? ⟨g, 0, none⟩ = some (.int .i64 a) ∧ w.cell? ⟨g, 1, none⟩ = some (.int .i64 b)

set_option maxRecDepth 100000 in
set_option maxHeartbeats 1600000 in
theorem signsOfI_any (A A' : Option Addr) (c c' : Nat) (s m : Int) (cs p : List Int) (w : World) (B : Nat) (hB : B ≤ w.heap.size) (h : RdI w B A c cs) (h' : RdI w B A' c' p) (hA' : ∀ a, A' = some a → a.block < w.heap.size) :
    Calls Try.prog 22 #[.slice A cs.length c, .agg #[.int .i64 s, .int .i64 m], .slice A' p.length c'] w fun e w' => ∃ A3 c3, e = .returned (.tuple #[.slice A3 (sgV cs s m p).length c3, .bool (admB cs s m p)]) ∧ Own w' w.heap.size 4 (.slice A3 (sgV cs s m p).length c3) (bls (sgV cs s m p)) ∧ Below w.heap.size w w' := by
  have HAD := Lib.hid fun W (hW : Below w.heap.size w W) => admI_any A A' c c' s m cs p W B (Nat.le_trans hB hW.size) (h.below hW hB) (h'.below hW hB)
  rcases hb : admB cs s m p with _ | _
  · rw [sgV_no hb]
    rw [hb] at HAD
    clear hb
    go_enter Try.func22, Try.ntmps22
    go_wp2_with (go_at_call 31; (with_reducible refine (HAD.out _ (bel1 _ _)).mono ?_); rintro e w1 ⟨rfl, hb1⟩)
    go_ret2
    exact ⟨none, 0, rfl, own_nil _ _ _, gtr (bel1 _ _) hb1⟩
  · rw [hb] at HAD
    obtain ⟨a, b, rfl, rfl, h1, h2, h3, h4, h5, hg, hx, hxs, hxl⟩ := admB_of hb
    rw [sgV_yes hb, sg_len]
    have HG := Lib.hid hg; have HX := Lib.hid hx; have HR := Lib.hid h; have HR' := Lib.hid h'; have HA := Lib.hid hA'
    have HLN := Lib.hid (sg_len cs (allTo a (b + 1)) p)
    clear hb hg hx h h' hA'
    go_enter Try.func22, Try.ntmps22
    go_wp2_with (go_at_call 31; (with_reducible refine (HAD.out _ (bel1 _ _)).mono ?_); rintro e w1 ⟨rfl, hb1⟩; have B1 := Lib.hid ((Blk.new w 28 #[.int .i64 (a : Int), .int .i64 (b : Int)]).below hb1 (by simp)); have c0 : w1.cell? ⟨w.heap.size, 0, none⟩ = some (.int .i64 (a : Int)) := B1.out.cell 0; have c1 : w1.cell? ⟨w.heap.size, 1, none⟩ = some (.int .i64 (b : Int)) := B1.out.cell 1; have hz1 := hb1.size; simp at hz1; have HG1 := Lib.hid (gtr (bel1 w (.cells #[.int .i64 (a : Int), .int .i64 (b : Int)] 28)) hb1); clear hb1)
    go_region_held3 (fun w' => w'.cell? ⟨w.heap.size, 0, none⟩ = some (.int .i64 (a : Int)) ∧ w'.cell? ⟨w.heap.size, 1, none⟩ = some (.int .i64 (b : Int))) (go_keep)
      (first
        | (go_at_call 32; refine (newM_any A c cs _).mono ?_; rintro e w2 ⟨bM, rfl, hbw, hM2, hb2⟩; have g2 := gtr (gdrew (a := w1)) hb2; have B2 := Lib.hid (B1.out.below g2 (by omega)); have s2 : w2.cell? ⟨w.heap.size, 0, none⟩ = some (.int .i64 (a : Int)) := B2.out.cell 0; have s2' : w2.cell? ⟨w.heap.size, 1, none⟩ = some (.int .i64 (b : Int)) := B2.out.cell 1)
        | (go_at_call 42; refine (signsI_any cs HG.out A c B bM (by have hbw' : w1.heap.size ≤ bM := hbw; omega) a b h2 h4 h5 p w2 A' c' [] HX.out hxs hxl hM2 ((HR.out.below HG1.out hB).below g2 (by omega)) (((HR'.out.below HG1.out hB).below g2 (by omega)).more (by have := g2.size; omega)) (fun q hq => by have := HA.out q hq; have hbw' : w1.heap.size ≤ bM := hbw; omega)).mono ?_; rintro e w3 ⟨⟨A3, c3, rfl, ho3⟩, ⟨K3, hM3⟩, hg3⟩; have B3 := Lib.hid (B2.out.grown hg3 (by have hbw' : w1.heap.size ≤ bM := hbw; simp; omega)); have s3 : w3.cell? ⟨w.heap.size, 0, none⟩ = some (.int .i64 (a : Int)) := B3.out.cell 0; have s3' : w3.cell? ⟨w.heap.size, 1, none⟩ = some (.int .i64 (b : Int)) := B3.out.cell 1))
    all_goals
      have hbw' : w1.heap.size ≤ bM := hbw
      have hz2 := g2.size
      have HE := Lib.hid ((HG1.out.trans (g2.mono (by omega))).grown hg3 (by omega) (fun k hk => by injection hk with hk; omega))
      have HO := Lib.hid (ho3.le (show w.heap.size ≤ w2.heap.size by omega))
      clear ho3 hg3 hM3 hM2 hb2 g2 s2 s2' s3 s3' B2 B3 B1 c0 c1
      go_wp2
      go_ret2
      exact ⟨A3, c3, rfl, HO.out, HE.out⟩

set_option maxRecDepth 100000 in
set_option maxHeartbeats 1600000 in
theorem signsOfS_any (A A' : Option Addr) (c c' : Nat) (s m : Int) (cs p : List Int) (w : World) (B : Nat) (hB : B ≤ w.heap.size) (h : RdI w B A c cs) (h' : RdI w B A' c' p) (hA' : ∀ a, A' = some a → a.block < w.heap.size) :
    Calls Try.prog 21 #[.slice A cs.length c, .agg #[.int .i64 s, .int .i64 m], .slice A' p.length c'] w fun e w' => ∃ A3 c3, e = .returned (.tuple #[.slice A3 (sgV cs s m p).length c3, .bool (admB cs s m p)]) ∧ Own w' w.heap.size 4 (.slice A3 (sgV cs s m p).length c3) (bls (sgV cs s m p)) ∧ Below w.heap.size w w' := by
  have HAD := Lib.hid fun W (hW : Below w.heap.size w W) => admS_any A A' c c' s m cs p W B (Nat.le_trans hB hW.size) (h.below hW hB) (h'.below hW hB)
  rcases hb : admB cs s m p with _ | _
  · rw [sgV_no hb]
    rw [hb] at HAD
    clear hb
    go_enter Try.func21, Try.ntmps21
    go_wp2_with (go_at_call 26; (with_reducible refine (HAD.out _ (bel1 _ _)).mono ?_); rintro e w1 ⟨rfl, hb1⟩)
    go_ret2
    exact ⟨none, 0, rfl, own_nil _ _ _, gtr (bel1 _ _) hb1⟩
  · rw [hb] at HAD
    obtain ⟨a, b, rfl, rfl, h1, h2, h3, h4, h5, hg, hx, hxs, hxl⟩ := admB_of hb
    rw [sgV_yes hb, sg_len]
    have HG := Lib.hid hg; have HX := Lib.hid hx; have HR := Lib.hid h; have HR' := Lib.hid h'; have HA := Lib.hid hA'
    clear hb hg hx h h' hA'
    go_enter Try.func21, Try.ntmps21
    go_wp2_with (go_at_call 26; (with_reducible refine (HAD.out _ (bel1 _ _)).mono ?_); rintro e w1 ⟨rfl, hb1⟩; have B1 := Lib.hid ((Blk.new w 28 #[.int .i64 (a : Int), .int .i64 (b : Int)]).below hb1 (by simp)); have c0 : w1.cell? ⟨w.heap.size, 0, none⟩ = some (.int .i64 (a : Int)) := B1.out.cell 0; have c1 : w1.cell? ⟨w.heap.size, 1, none⟩ = some (.int .i64 (b : Int)) := B1.out.cell 1; have hz1 := hb1.size; simp at hz1; have HG1 := Lib.hid (gtr (bel1 w (.cells #[.int .i64 (a : Int), .int .i64 (b : Int)] 28)) hb1); clear hb1)
    go_region_held3 (fun w' => w'.cell? ⟨w.heap.size, 0, none⟩ = some (.int .i64 (a : Int)) ∧ w'.cell? ⟨w.heap.size, 1, none⟩ = some (.int .i64 (b : Int))) (go_keep)
      (first
        | (go_at_call 27; refine (new_any A c cs _).mono ?_; rintro e w2 ⟨g, gk, gv, rfl, hg1, hg2', hg3', hM2, hb2⟩; have g2 := gtr (gdrew (a := w1)) hb2; have B2 := Lib.hid (B1.out.below g2 (by omega)); have s2 : w2.cell? ⟨w.heap.size, 0, none⟩ = some (.int .i64 (a : Int)) := B2.out.cell 0; have s2' : w2.cell? ⟨w.heap.size, 1, none⟩ = some (.int .i64 (b : Int)) := B2.out.cell 1)
        | (go_at_call 29; refine (signsS_any cs HG.out A c B g gk gv (by have hbw' : w1.heap.size ≤ gk := hg2'; omega) (by have hbw' : w1.heap.size ≤ gv := hg3'; omega) a b h2 h4 h5 p w2 A' c' _ _ HX.out hxs hxl hM2 ((HR.out.below HG1.out hB).below g2 (by omega)) (((HR'.out.below HG1.out hB).below g2 (by omega)).more (by have := g2.size; omega)) (fun q hq => by have := HA.out q hq; have hk' : w1.heap.size ≤ gk := hg2'; have hv' : w1.heap.size ≤ gv := hg3'; exact ⟨by omega, by omega⟩)).mono ?_; rintro e w3 ⟨⟨A3, c3, rfl, ho3⟩, ⟨ks3, vs3, hM3⟩, hT3⟩; have B3 := Lib.hid (hT3.2.2.2.2 w.heap.size (by have := g2.size; omega) (by have hk' : w1.heap.size ≤ gk := hg2'; omega) (by have hv' : w1.heap.size ≤ gv := hg3'; omega)); have B4 := Lib.hid (show Blk w3 w.heap.size 28 #[.int .i64 (a : Int), .int .i64 (b : Int)] from B3.out.trans B2.out); have s3 : w3.cell? ⟨w.heap.size, 0, none⟩ = some (.int .i64 (a : Int)) := B4.out.cell 0; have s3' : w3.cell? ⟨w.heap.size, 1, none⟩ = some (.int .i64 (b : Int)) := B4.out.cell 1))
    all_goals
      have hk' : w1.heap.size ≤ gk := hg2'
      have hv' : w1.heap.size ≤ gv := hg3'
      have hz2 := g2.size
      have HE := Lib.hid (Tw.below (HG1.out.trans (g2.mono (by omega))) hT3 (by omega) (by omega))
      have HO := Lib.hid (ho3.le (show w.heap.size ≤ w2.heap.size by omega))
      clear ho3 hT3 hM3 hM2 hb2 g2 s2 s2' s3 s3' B2 B3 B4 B1 c0 c1
      go_wp2
      go_ret2
      exact ⟨A3, c3, rfl, HO.out, HE.out⟩

set_option maxRecDepth 100000 in
set_option maxHeartbeats 3200000 in
theorem lawSigns (a : Option Addr) (len cap : Nat) (zs : List Int) (s m : Int) (a' : Option Addr) (len' cap' : Nat) (zs' : List Int) (w : World) (h : IsRow .i64 w a len cap zs) (hp : (Lit.int .i64 s).wf = true) (hl : (Lit.int .i64 m).wf = true) (h' : IsRow .i64 w a' len' cap' zs') :
    Calls Try.prog 7 #[.slice a len cap, .agg #[.int .i64 s, .int .i64 m], .slice a' len' cap'] w fun e w' => e = .returned (.bool true) ∧ Below w.heap.size w w' := by
  clear hp hl
  obtain ⟨hr, hl⟩ := h.rd
  obtain ⟨hr', hl'⟩ := h'.rd
  clear h h'
  generalize zs.take len = xs at hr hl
  generalize zs'.take len' = ys at hr' hl'
  subst hl hl'
  have h1 := hr.len
  have h2 := hr.max
  have h3 := hr'.len
  have h4 := hr'.max
  by_cases hbig : 1048576 < xs.length
  · go_enter Try.func7, Try.ntmps7
    go_wp2
    go_ret
    first | exact ⟨rfl, Below.refl _ _⟩ | exact ⟨rfl, bel1 _ _⟩
  by_cases hbig' : 1048576 < ys.length
  · go_enter Try.func7, Try.ntmps7
    go_wp2
    go_ret
    first | exact ⟨rfl, Below.refl _ _⟩ | exact ⟨rfl, bel1 _ _⟩
  have hsm : xs.length ≤ 1048576 := by omega
  have hsm' : ys.length ≤ 1048576 := by omega
  have HS := Lib.hid fun A A' c c' W => signsOfS_any A A' c c' s m xs ys W W.heap.size (Nat.le_refl _)
  have HI := Lib.hid fun A A' c c' W => signsOfI_any A A' c c' s m xs ys W W.heap.size (Nat.le_refl _)
  have hRl := sgV_len xs s m ys
  obtain ⟨R, hR⟩ : ∃ R, R = sgV xs s m ys := ⟨_, rfl⟩
  obtain ⟨ok, hok⟩ : ∃ ok, ok = admB xs s m ys := ⟨_, rfl⟩
  rw [← hR, ← hok] at HS HI
  rw [← hR] at hRl
  clear hR hok
  have hbe : (ok != ok) = false := by cases ok <;> rfl
  have hRR : decide (R = R) = true := decide_eq_true rfl
  have hxx : decide (xs = xs) = true := decide_eq_true rfl
  have hyy : decide (ys = ys) = true := decide_eq_true rfl
  go_enter Try.func7, Try.ntmps7
  go_wp2_with fail
  have hzW : w.heap.size < (w.alloc (.cells #[.int .i64 s, .int .i64 m] 24)).heap.size := by simp
  have hAW : Below w.heap.size w (w.alloc (.cells #[.int .i64 s, .int .i64 m] 24)) := (Below.refl _ _).alloc (Nat.le_refl _) _
  have c0W : (w.alloc (.cells #[.int .i64 s, .int .i64 m] 24)).cell? ⟨w.heap.size, 0, none⟩ = some (.int .i64 s) := by simp [go_sem]
  have c1W : (w.alloc (.cells #[.int .i64 s, .int .i64 m] 24)).cell? ⟨w.heap.size, 1, none⟩ = some (.int .i64 m) := by simp [go_sem]
  generalize w.alloc (.cells #[.int .i64 s, .int .i64 m] 24) = W at *
  have hzz := hAW.size
  have HC0 := Lib.hid fun w' (hg : Below W.heap.size W w') => (hg.cell (p := ⟨w.heap.size, 0, none⟩) hzW).trans c0W
  have HC1 := Lib.hid fun w' (hg : Below W.heap.size W w') => (hg.cell (p := ⟨w.heap.size, 1, none⟩) hzW).trans c1W
  have HAW := Lib.hid hAW
  have hrW := (hr.below hAW (Nat.le_refl _)).more hzz
  clear hr
  have hr := hrW
  clear hrW hAW
  have hrW' := (hr'.below HAW.out (Nat.le_refl _)).more hzz
  clear hr'
  have hr' := hrW'
  clear hrW'
  have g0 := Below.refl W.heap.size W
  have tok1 : True := trivial
  have v0 := HC0.out _ g0
  have v1 := HC1.out _ g0
  go_region_held3 (fun w' => w'.cell? ⟨w.heap.size, 0, none⟩ = some (.int .i64 s) ∧ w'.cell? ⟨w.heap.size, 1, none⟩ = some (.int .i64 m)) (go_keep)
    (first
      | (have _t := tok1; go_at_call 9; refine (toIntS_any _ _ xs W.drew _ g0.size (hr.below (g0.trans (gdrew (a := W) |>.mono g0.size)) (Nat.le_refl _)) hsm).mono ?_; rintro e w1 ⟨A1, c1, rfl, ho1, hb1⟩; clear tok1 _t; have g1 := gtr g0 (gtr (gdrew (a := W)) hb1); have s0 := HC0.out _ g1; have s1 := HC1.out _ g1)
      | (go_at_call 10; refine (toBox_any s m _).mono ?_; rintro e wa ⟨rfl, hba⟩; have ga := gtr g1 hba; have t0 := HC0.out _ ga; have t1 := HC1.out _ ga)
      | (go_at_call 9; refine (toIntS_any _ _ ys wa _ ga.size (hr'.below ga (Nat.le_refl _)) hsm').mono ?_; rintro e w2 ⟨A2, c2, rfl, ho2, hb2⟩; have g2 := gtr ga hb2; have u0 := HC0.out _ g2; have u1 := HC1.out _ g2)
      | (go_at_call 21; refine (HS.out A1 A2 c1 c2 _ (((ho1.below hba).below hb2).rd rfl) (ho2.rd rfl) (fun q hq => by subst hq; exact ((own_ints.1 ho2).lt q.block rfl).2)).mono ?_; rintro e w3 ⟨A3, c3, rfl, ho3, hb3⟩; have g3 := gtr g2 hb3; have x0 := HC0.out _ g3; have x1 := HC1.out _ g3))
  have hz3 := hb3.size
  have hs3 : RdB w3 w3.heap.size A3 c3 R := Own.rd ho3
  clear ho1 hb1 hba ho2 hb2 ho3 hb3 s0 s1 t0 t1 u0 u1 x0 x1 v0 v1
  go_wp2_with fail
  ((with_reducible refine (toIntS_any _ _ xs _ _ g3.size (hr.below g3 (Nat.le_refl _)) hsm).mono ?_); rintro e w4 ⟨A4, c4, rfl, ho4, hb4⟩)
  have g4 := gtr g3 hb4
  have hz4 := hb4.size
  have hs4 := hs3.below hb4 (Nat.le_refl _)
  have HBLK4 : Hid (∀ k, (Value.slice A4 xs.length c4).ownBlock = some k → w3.heap.size ≤ k ∧ k < w4.heap.size) := fun k hk => (own_ints.1 ho4).lt k hk
  clear hs3
  go_wp2_with fail
  ((with_reducible refine (toIntS_any _ _ ys _ _ g4.size (hr'.below g4 (Nat.le_refl _)) hsm').mono ?_); rintro e w5 ⟨A5, c5, rfl, ho5, hb5⟩)
  have g5 := gtr g4 hb5
  have hz5 := hb5.size
  have hs5 := hs4.below hb5 (by omega)
  have hx5 := ho4.below hb5
  have HBLK5 : Hid (∀ k, (Value.slice A5 ys.length c5).ownBlock = some k → w4.heap.size ≤ k ∧ k < w5.heap.size) := fun k hk => (own_ints.1 ho5).lt k hk
  clear hs4 ho4 hb4
  have v0 := HC0.out _ g5
  have v1 := HC1.out _ g5
  go_wp2_with fail
  ((with_reducible refine (toBox_any s m _).mono ?_); rintro e wb ⟨rfl, hbb⟩)
  clear v0 v1
  have gb := gtr g5 hbb
  have hzb := hbb.size
  have hsb := hs5.below hbb (by omega)
  have hxb := hx5.below hbb
  have hyb := ho5.below hbb
  clear hs5 hx5 ho5 hb5 hbb
  have hA5 : ∀ q, A5 = some q → q.block < wb.heap.size := fun q hq => by subst hq; exact ((own_ints.1 hyb).lt q.block rfl).2
  go_wp2_with fail
  ((with_reducible refine (HI.out A4 A5 c4 c5 _ (hxb.rd rfl) (hyb.rd rfl) hA5).mono ?_); rintro e w6 ⟨A6, c6, rfl, ho6, hb6⟩)
  have g6 := gtr gb hb6
  have hz6 := hb6.size
  have hx6 := hxb.below hb6
  have hy6 := hyb.below hb6
  have hs6 := hsb.below hb6 (by omega)
  clear hxb hyb hsb hb6
  have rw6 : RdB w6 w6.heap.size A6 c6 R := Own.rd ho6
  go_wp2_with fail
  ((with_reducible refine (eqBl_any _ _ _ _ R R _ _ (Nat.le_refl _) rw6 (hs6.more (by omega))).mono ?_); rintro e w7 ⟨rfl, hb7⟩)
  have g7 := gtr g6 hb7
  have hz7 := hb7.size
  have ho7 := ho6.below hb7
  have hx7 := hx6.below hb7
  have hy7 := hy6.below hb7
  have hs7 := hs6.below hb7 (by omega)
  clear ho6 hx6 hy6 hs6 hb7
  go_wp2_with fail
  ((with_reducible refine (toIntS_any _ _ xs _ _ g7.size (hr.below g7 (Nat.le_refl _)) hsm).mono ?_); rintro e w8 ⟨A8, c8, rfl, hm8, hb8⟩)
  have g8 := gtr g7 hb8
  have hz8 := hb8.size
  have ho8 := ho7.below hb8
  have hx8 := hx7.below hb8
  have hy8 := hy7.below hb8
  have hs8 := hs7.below hb8 (by omega)
  clear ho7 hx7 hy7 hs7 hb8
  go_wp2_with fail
  ((with_reducible refine (eqIntS_any _ _ _ _ xs xs _ _ (Nat.le_refl _) (hx8.rd rfl) (hm8.rd rfl)).mono ?_); rintro e w9 ⟨rfl, hb9⟩)
  have g9 := gtr g8 hb9
  have hz9 := hb9.size
  have ho9 := ho8.below hb9
  have hx9 := hx8.below hb9
  have hy9 := hy8.below hb9
  have hs9 := hs8.below hb9 (by omega)
  clear ho8 hx8 hy8 hs8 hb9 hm8
  go_wp2_with fail
  ((with_reducible refine (toIntS_any _ _ ys _ _ g9.size (hr'.below g9 (Nat.le_refl _)) hsm').mono ?_); rintro e wA ⟨AA, cA, rfl, hmA, hbA⟩)
  have gA := gtr g9 hbA
  have hzA := hbA.size
  have hoA := ho9.below hbA
  have hxA := hx9.below hbA
  have hyA := hy9.below hbA
  have hsA := hs9.below hbA (by omega)
  clear ho9 hx9 hy9 hs9 hbA
  go_wp2_with fail
  ((with_reducible refine (eqIntS_any _ _ _ _ ys ys _ _ (Nat.le_refl _) (hyA.rd rfl) (hmA.rd rfl)).mono ?_); rintro e wB ⟨rfl, hbB⟩)
  have gB := gtr gA hbB
  have hzB := hbB.size
  have hoB := hoA.below hbB
  have hxB := own_ints.1 (hxA.below hbB)
  have hyB := own_ints.1 (hyA.below hbB)
  have hsB := hsA.below hbB (by omega)
  clear hoA hxA hyA hsA hbB hmA
  go_wp2_with fail
  ((with_reducible refine (markRow_any _ _ _ _ _ _ hxB (by decide) (by omega)).mono ?_); rintro e wC ⟨rfl, _, hgC⟩)
  have hzC := hgC.size
  have gC : Below W.heap.size W wC := gB.grown hgC (by have := gB.size; omega) fun k hk => by have := HBLK4.out k hk; have := g3.size; omega
  have hoC := hoB.grown hgC (by
    rcases hob : (Value.slice A6 R.length c6).ownBlock with _ | k
    · exact .inl rfl
    · refine .inr fun e => ?_
      have := (hoB.lt k hob).1
      have := HBLK4.out k e.symm
      omega)
  have hyC := hyB.grown hgC (by
    rcases hob : (Value.slice A5 ys.length c5).ownBlock with _ | k
    · exact .inl rfl
    · refine .inr fun e => ?_
      have := HBLK5.out k hob
      have := HBLK4.out k e.symm
      omega)
  have hsC : RdB wC w3.heap.size A3 c3 R := Rd.grown (lo := 0) hsB (fun _ _ => Nat.zero_le _) hgC (by omega) fun k hk => .inr (HBLK4.out k hk).1
  clear hoB hyB hsB hgC hxB
  go_wp2_with fail
  ((with_reducible refine (markRow_any _ _ _ _ _ _ hyC (by omega) (by omega)).mono ?_); rintro e wD ⟨rfl, _, hgD⟩)
  have hzD := hgD.size
  have gD : Below W.heap.size W wD := gC.grown hgD (by have := gC.size; omega) fun k hk => by have := HBLK5.out k hk; have := g3.size; omega
  have hoD := hoC.grown hgD (by
    rcases hob : (Value.slice A6 R.length c6).ownBlock with _ | k
    · exact .inl rfl
    · refine .inr fun e => ?_
      have := (hoC.lt k hob).1
      have := HBLK5.out k e.symm
      omega)
  have hsD : RdB wD w3.heap.size A3 c3 R := Rd.grown (lo := 0) hsC (fun _ _ => Nat.zero_le _) hgD (by omega) fun k hk => .inr (by have := HBLK5.out k hk; omega)
  clear hoC hyC hsC hgD
  have hkk : ¬ (1 : Int) + (xs.length : Int) + (ys.length : Int) < 0 := by omega
  have rwD : RdB wD wD.heap.size A6 c6 R := Own.rd hoD
  go_wp2_with fail
  ((with_reducible refine (eqBl_any _ _ _ _ R R _ _ (Nat.le_refl _) rwD (hsD.more (by omega))).mono ?_); rintro e wE ⟨rfl, hbE⟩)
  have gE := gtr gD hbE
  have hzE := hbE.size
  have hoE := hoD.below hbE
  have hsE := hsD.below hbE (by omega)
  clear hoD hsD hbE
  have hb6k : ∀ k, (Value.slice A6 R.length c6).ownBlock = some k → wb.heap.size ≤ k := fun k hk => (hoE.lt k hk).1
  go_wp2_with fail
  ((with_reducible refine (markBl_any _ _ _ _ _ _ hoE (by decide) (by omega)).mono ?_); rintro e wF ⟨rfl, hoF, hgF⟩)
  have hzF := hgF.size
  have gF : Below W.heap.size W wF := gE.grown hgF (by have := gE.size; omega) fun k hk => by have := hb6k k hk; have := gb.size; omega
  have hsF : RdB wF w3.heap.size A3 c3 R := Rd.grown (lo := 0) hsE (fun _ _ => Nat.zero_le _) hgF (by omega) fun k hk => .inr (by have := hb6k k hk; omega)
  have hnF : RdB wF wF.heap.size A6 c6 (mkB 1 R.length) := Own.rd hoF
  clear hoE hsE hgF hb6k hoF
  go_wp2_with fail
  ((with_reducible refine (heldBl_any _ _ _ _ _ _ hnF (by decide) (by omega)).mono ?_); rintro e wG ⟨rfl, rfl⟩)
  have hnn : ¬ 1 + (R.length : Int) < 0 := by omega
  go_wp2_with fail
  have tok1 : True := trivial
  have v0 := HC0.out _ gF
  have v1 := HC1.out _ gF
  go_region_held3 (fun w' => w'.cell? ⟨w.heap.size, 0, none⟩ = some (.int .i64 s) ∧ w'.cell? ⟨w.heap.size, 1, none⟩ = some (.int .i64 m)) (go_keep)
    (first
      | (have _t := tok1; go_at_call 9; refine (toIntS_any _ _ xs wF.drew _ gF.size (hr.below (gF.trans (gdrew (a := wF) |>.mono gF.size)) (Nat.le_refl _)) hsm).mono ?_; rintro e wH ⟨AH, cH, rfl, hmH, hbH⟩; clear tok1 _t; have gH := gtr gF (gtr (gdrew (a := wF)) hbH); have s0 := HC0.out _ gH; have s1 := HC1.out _ gH)
      | (go_at_call 10; refine (toBox_any s m _).mono ?_; rintro e wI ⟨rfl, hbI⟩; have gI := gtr gH hbI; have t0 := HC0.out _ gI; have t1 := HC1.out _ gI)
      | (go_at_call 9; refine (toIntS_any _ _ ys wI _ gI.size (hr'.below gI (Nat.le_refl _)) hsm').mono ?_; rintro e wJ ⟨AJ, cJ, rfl, hmJ, hbJ⟩; have gJ := gtr gI hbJ; have u0 := HC0.out _ gJ; have u1 := HC1.out _ gJ)
      | (go_at_call 22; refine (HI.out AH AJ cH cJ _ (((hmH.below hbI).below hbJ).rd rfl) (hmJ.rd rfl) (fun q hq => by subst hq; exact ((own_ints.1 hmJ).lt q.block rfl).2)).mono ?_; rintro e wK ⟨AK, cK, rfl, hoK, hbK⟩; have gK := gtr gJ hbK; have x0 := HC0.out _ gK; have x1 := HC1.out _ gK))
  have hbFH : Below wF.heap.size wF wH := gtr (gdrew (a := wF)) hbH
  have hbFK : Below wF.heap.size wF wK := gtr (gtr (gtr hbFH hbI) hbJ) hbK
  have hsK := hsF.below hbFK (by omega)
  have hnK := hnF.below hbFK (Nat.le_refl _)
  have hzK := hbFK.size
  clear s0 s1 t0 t1 u0 u1 x0 x1 v0 v1 hmH hbH hbI hmJ hbJ hbK hbFH hbFK
  have rwK : RdB wK wK.heap.size AK cK R := Own.rd hoK
  go_wp2_with fail
  ((with_reducible refine (eqBl_any _ _ _ _ R R _ _ (Nat.le_refl _) rwK (hsK.more (by omega))).mono ?_); rintro e wL ⟨rfl, hbL⟩)
  have gL := gtr gK hbL
  have hzL := hbL.size
  have hnL := hnK.below hbL (by omega)
  go_wp2_with fail
  ((with_reducible refine (heldBl_any _ _ _ _ _ _ hnL (by decide) (by omega)).mono ?_); rintro e wM ⟨rfl, rfl⟩)
  go_wp2
  go_ret
  exact ⟨rfl, gtr HAW.out gL⟩
end Go.Proofs.Ytbledcogbkeneaa
