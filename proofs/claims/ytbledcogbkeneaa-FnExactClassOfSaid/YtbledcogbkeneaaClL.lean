/- FnExactClassOf returns true: the walk. Conditions: none. -/
import Derived.Test.YtbledcogbkeneaaCls
namespace Go.Proofs.Ytbledcogbkeneaa
open Go.RowKit Go.Maps
set_option linter.unusedVariables false

/-- The class that is found, -1 if there is none. -/
noncomputable def ckV (cs : List Int) (s m : Int) (p : List Int) : Int := cl cs (allTo s.toNat (m.toNat + 1)) (sg cs (allTo s.toNat (m.toNat + 1)) p)
/-- x, and 0 below it. -/
def po (x : Int) : Int := if 0 ≤ x then x else 0
theorem po_t {x : Int} (h : 0 ≤ x) : po x = x := if_pos h
theorem po_f {x : Int} (h : ¬ 0 < x) : po x = 0 := by unfold po; split <;> omega
theorem po_max (x : Int) : po x = max x 0 := by unfold po; split <;> omega
noncomputable def clV (cs : List Int) (s m : Int) (p : List Int) : Int := if admB cs s m p = true then po (ckV cs s m p) else 0
noncomputable def clB (cs : List Int) (s m : Int) (p : List Int) : Bool := admB cs s m p && decide (0 ≤ ckV cs s m p)
theorem ckV_range {cs : List Int} {a b : Nat} {p : List Int} (h : a ≤ 6) (h' : b ≤ 6) : -1 ≤ ckV cs a b p ∧ ckV cs a b p < 1000000 := by
  unfold ckV
  have h1 := cl_range cs (allTo (a : Int).toNat ((b : Int).toNat + 1)) (sg cs (allTo (a : Int).toNat ((b : Int).toNat + 1)) p)
  have h2 := allTo_le a h (b + 1) (by omega)
  rw [Int.toNat_natCast, Int.toNat_natCast] at h1 ⊢
  omega

set_option maxHeartbeats 400000 in
theorem most_any (x : Int) (w : World) : Calls Try.prog 30 #[.int .i64 x, .int .i64 0] w fun e w' => e = .returned (.int .i64 (po x)) ∧ w' = w := by
  by_cases h : 0 < x
  · have HI : Hid (po x = x) := Lib.hid (po_t (by omega))
    go_enter Try.func30, Try.ntmps30
    go_wp2
    go_ret
    exact ⟨by rw [HI.out]; rfl, rfl⟩
  · have HI : Hid (po x = 0) := Lib.hid (po_f h)
    go_enter Try.func30, Try.ntmps30
    go_wp2
    go_ret
    exact ⟨by rw [HI.out]; rfl, rfl⟩

set_option maxRecDepth 100000 in
set_option maxHeartbeats 1600000 in
theorem classOfI_any (A A' : Option Addr) (c c' : Nat) (s m : Int) (cs p : List Int) (w : World) (B : Nat) (hB : B ≤ w.heap.size) (h : RdI w B A c cs) (h' : RdI w B A' c' p) (hA' : ∀ a, A' = some a → a.block < w.heap.size) :
    Calls Try.prog 11 #[.slice A cs.length c, .agg #[.int .i64 s, .int .i64 m], .slice A' p.length c'] w fun e w' => e = .returned (.tuple #[.int .i64 (clV cs s m p), .bool (clB cs s m p)]) ∧ Below w.heap.size w w' := by
  have HAD := Lib.hid fun W (hW : Below w.heap.size w W) => admI_any A A' c c' s m cs p W B (Nat.le_trans hB hW.size) (h.below hW hB) (h'.below hW hB)
  rcases hb : admB cs s m p with _ | _
  · have HV : Hid (clV cs s m p = 0) := Lib.hid (by rw [clV, hb]; rfl)
    have HN : Hid (clB cs s m p = false) := Lib.hid (by rw [clB, hb]; rfl)
    rw [hb] at HAD
    clear hb
    go_enter Try.func11, Try.ntmps11
    go_wp2_with (go_at_call 31; (with_reducible refine (HAD.out _ (bel1 _ _)).mono ?_); rintro e w1 ⟨rfl, hb1⟩)
    go_ret2
    exact ⟨by rw [HN.out, HV.out]; rfl, gtr (bel1 _ _) hb1⟩
  · rw [hb] at HAD
    obtain ⟨a, b, rfl, rfl, h1, h2, h3, h4, h5, hg, hx, hxs, hxl⟩ := admB_of hb
    have HV : Hid (clV cs a b p = po (ckV cs a b p)) := Lib.hid (by rw [clV, if_pos hb])
    have HN : Hid (clB cs a b p = decide (0 ≤ ckV cs a b p)) := Lib.hid (by rw [clB, hb]; rfl)
    have hrg := ckV_range (cs := cs) (p := p) h2 h4
    have HK : Hid (cl cs (allTo a (b + 1)) (sg cs (allTo a (b + 1)) p) = ckV cs a b p) := Lib.hid (by unfold ckV; rw [Int.toNat_natCast, Int.toNat_natCast])
    have HC := Lib.hid fun W' (bM : Nat) (hBb : B ≤ bM) (K : List (List Int)) (hM : MapM W' bM cs K) (hcode : RdI W' B A c cs) (hr : RdI W' W'.heap.size A' c' p) (hxb : ∀ a, A' = some a → a.block ≠ bM) => classI_any cs hg A c B bM hBb a b h2 h4 h5 p W' A' c' K hx hxs hxl hM hcode hr hxb
    rw [HK.out] at HC
    obtain ⟨k, hk⟩ : ∃ k, k = ckV cs a b p := ⟨_, rfl⟩
    rw [← hk] at HC HV HN hrg
    have HR := Lib.hid h; have HR' := Lib.hid h'; have HA := Lib.hid hA'
    clear hb hg hx h h' hA' hk HK
    go_enter Try.func11, Try.ntmps11
    go_wp2_with (go_at_call 31; (with_reducible refine (HAD.out _ (bel1 _ _)).mono ?_); rintro e w1 ⟨rfl, hb1⟩; have B1 := Lib.hid ((Blk.new w 28 #[.int .i64 (a : Int), .int .i64 (b : Int)]).below hb1 (by simp)); have c0 : w1.cell? ⟨w.heap.size, 0, none⟩ = some (.int .i64 (a : Int)) := B1.out.cell 0; have c1 : w1.cell? ⟨w.heap.size, 1, none⟩ = some (.int .i64 (b : Int)) := B1.out.cell 1; have hz1 := hb1.size; simp at hz1; have HG1 := Lib.hid (gtr (bel1 w (.cells #[.int .i64 (a : Int), .int .i64 (b : Int)] 28)) hb1); clear hb1)
    go_region_held3 (fun w' => w'.cell? ⟨w.heap.size, 0, none⟩ = some (.int .i64 (a : Int)) ∧ w'.cell? ⟨w.heap.size, 1, none⟩ = some (.int .i64 (b : Int))) (go_keep)
      (first
        | (go_at_call 32; refine (newM_any A c cs _).mono ?_; rintro e w2 ⟨bM, rfl, hbw, hM2, hb2⟩; have g2 := gtr (gdrew (a := w1)) hb2; have B2 := Lib.hid (B1.out.below g2 (by omega)); have s2 : w2.cell? ⟨w.heap.size, 0, none⟩ = some (.int .i64 (a : Int)) := B2.out.cell 0; have s2' : w2.cell? ⟨w.heap.size, 1, none⟩ = some (.int .i64 (b : Int)) := B2.out.cell 1)
        | (go_at_call 33; refine (HC.out w2 bM (by have hbw' : w1.heap.size ≤ bM := hbw; omega) [] hM2 ((HR.out.below HG1.out hB).below g2 (by omega)) (((HR'.out.below HG1.out hB).below g2 (by omega)).more (by have := g2.size; omega)) (fun q hq => by have := HA.out q hq; have hbw' : w1.heap.size ≤ bM := hbw; omega)).mono ?_; rintro e w3 ⟨rfl, ⟨K3, hM3⟩, hg3⟩; have B3 := Lib.hid (B2.out.grown hg3 (by have hbw' : w1.heap.size ≤ bM := hbw; simp; omega)); have s3 : w3.cell? ⟨w.heap.size, 0, none⟩ = some (.int .i64 (a : Int)) := B3.out.cell 0; have s3' : w3.cell? ⟨w.heap.size, 1, none⟩ = some (.int .i64 (b : Int)) := B3.out.cell 1))
    all_goals
      have hbw' : w1.heap.size ≤ bM := hbw
      have hz2 := g2.size
      have HE := Lib.hid ((HG1.out.trans (g2.mono (by omega))).grown hg3 (by omega) (fun k hk => by injection hk with hk; omega))
      clear hg3 hM3 hM2 hb2 g2 s2 s2' s3 s3' B2 B3 B1 c0 c1
      by_cases hk0 : 0 ≤ k
      · have HV2 : Hid (clV cs a b p = max k 0) := Lib.hid (HV.out.trans (po_max k))
        have HN2 : Hid (clB cs a b p = true) := Lib.hid (HN.out.trans (decide_eq_true hk0))
        clear HV HN
        go_wp2
        go_ret2
        exact ⟨by rw [HV2.out, HN2.out]; rfl, HE.out⟩
      · have HV2 : Hid (clV cs a b p = max k 0) := Lib.hid (HV.out.trans (po_max k))
        have HN2 : Hid (clB cs a b p = false) := Lib.hid (HN.out.trans (decide_eq_false hk0))
        clear HV HN
        go_wp2
        go_ret2
        exact ⟨by rw [HV2.out, HN2.out]; rfl, HE.out⟩

set_option maxRecDepth 100000 in
set_option maxHeartbeats 1600000 in
theorem classOfS_any (A A' : Option Addr) (c c' : Nat) (s m : Int) (cs p : List Int) (w : World) (B : Nat) (hB : B ≤ w.heap.size) (h : RdI w B A c cs) (h' : RdI w B A' c' p) (hA' : ∀ a, A' = some a → a.block < w.heap.size) :
    Calls Try.prog 8 #[.slice A cs.length c, .agg #[.int .i64 s, .int .i64 m], .slice A' p.length c'] w fun e w' => e = .returned (.tuple #[.int .i64 (clV cs s m p), .bool (clB cs s m p)]) ∧ Below w.heap.size w w' := by
  have HAD := Lib.hid fun W (hW : Below w.heap.size w W) => admS_any A A' c c' s m cs p W B (Nat.le_trans hB hW.size) (h.below hW hB) (h'.below hW hB)
  rcases hb : admB cs s m p with _ | _
  · have HV : Hid (clV cs s m p = 0) := Lib.hid (by rw [clV, hb]; rfl)
    have HN : Hid (clB cs s m p = false) := Lib.hid (by rw [clB, hb]; rfl)
    rw [hb] at HAD
    clear hb
    go_enter Try.func8, Try.ntmps8
    go_wp2_with (go_at_call 26; (with_reducible refine (HAD.out _ (bel1 _ _)).mono ?_); rintro e w1 ⟨rfl, hb1⟩)
    go_ret2
    exact ⟨by rw [HN.out, HV.out]; rfl, gtr (bel1 _ _) hb1⟩
  · rw [hb] at HAD
    obtain ⟨a, b, rfl, rfl, h1, h2, h3, h4, h5, hg, hx, hxs, hxl⟩ := admB_of hb
    have HV : Hid (clV cs a b p = po (ckV cs a b p)) := Lib.hid (by rw [clV, if_pos hb])
    have HN : Hid (clB cs a b p = decide (0 ≤ ckV cs a b p)) := Lib.hid (by rw [clB, hb]; rfl)
    have hrg := ckV_range (cs := cs) (p := p) h2 h4
    have HK : Hid (cl cs (allTo a (b + 1)) (sg cs (allTo a (b + 1)) p) = ckV cs a b p) := Lib.hid (by unfold ckV; rw [Int.toNat_natCast, Int.toNat_natCast])
    have HP := Lib.hid fun (g gk gv : Nat) (h1 : B ≤ gk) (h1' : B ≤ gv) (w' : World) (ks vs : List Int) (hM : BookM w' g gk gv A c cs ks vs) (hcode : RdI w' B A c cs) (hr : RdI w' w'.heap.size A' c' p) (hne : ∀ a, A' = some a → a.block ≠ gk ∧ a.block ≠ gv) => signsS_any cs hg A c B g gk gv h1 h1' a b h2 h4 h5 p w' A' c' ks vs hx hxs hxl hM hcode hr hne
    have HF := Lib.hid fun (g gk gv : Nat) (h1 : B ≤ gk) (h1' : B ≤ gv) (w' : World) (A3 : Option Addr) (c3 : Nat) (ks vs : List Int) (hM : BookM w' g gk gv A c cs ks vs) (hcode : RdI w' B A c cs) (hr : RdB w' w'.heap.size A3 c3 (sg cs (allTo a (b + 1)) p)) (hne : ∀ a, A3 = some a → a.block ≠ gk ∧ a.block ≠ gv) => firstS_any cs hg A c B g gk gv h1 h1' a b h2 h4 h5 (sg cs (allTo a (b + 1)) p) (sg_len _ _ _) w' A3 c3 ks vs hM hcode hr hne
    rw [HK.out] at HF
    obtain ⟨k, hk⟩ : ∃ k, k = ckV cs a b p := ⟨_, rfl⟩
    obtain ⟨L, hL⟩ : ∃ L, L = allTo a (b + 1) := ⟨_, rfl⟩
    rw [← hL] at HP HF
    rw [← hk] at HF HV HN hrg
    have HR := Lib.hid h; have HR' := Lib.hid h'; have HA := Lib.hid hA'
    clear hb hg hx h h' hA' hk HK hL
    go_enter Try.func8, Try.ntmps8
    go_wp2_with (first
      | (go_at_call 26; (with_reducible refine (HAD.out _ (bel1 _ _)).mono ?_); rintro e w1 ⟨rfl, hb1⟩; have B1 := Lib.hid ((Blk.new w 28 #[.int .i64 (a : Int), .int .i64 (b : Int)]).below hb1 (by simp)); have hz1 := hb1.size; simp at hz1; have HG1 := Lib.hid (gtr (bel1 w (.cells #[.int .i64 (a : Int), .int .i64 (b : Int)] 28)) hb1); clear hb1)
      | (go_at_call 27; (with_reducible refine (new_any A c cs _).mono ?_); rintro e W ⟨g, gk, gv, rfl, hw1, hw2, hw3, hM, hb3⟩))
    have hz3 := hb3.size
    have hBY := B1.out.below hb3 (by omega)
    have GW := gtr HG1.out hb3
    have hwW : w.heap.size ≤ W.heap.size := GW.size
    have p0 : W.cell? ⟨w.heap.size, 0, none⟩ = some (.int .i64 (a : Int)) := hBY.cell 0
    have p1 : W.cell? ⟨w.heap.size, 1, none⟩ = some (.int .i64 (b : Int)) := hBY.cell 1
    have hwl := hBY.lt
    have hwk : w.heap.size < gk := by omega
    have hwv : w.heap.size < gv := by omega
    obtain ⟨-, hkW, hvW⟩ := hM.lt
    obtain ⟨ks, hks⟩ : ∃ ks : List Int, ks = List.replicate 8192 (-1) := ⟨_, rfl⟩
    obtain ⟨vs, hvs⟩ : ∃ vs : List Int, vs = List.replicate 8192 0 := ⟨_, rfl⟩
    rw [← hks, ← hvs] at hM
    have HM := Lib.hid hM; have HBY := Lib.hid hBY; have HGW := Lib.hid GW
    clear hM hBY GW hb3 hw1 hw2 hw3 hz3 B1 HG1 hz1 hks hvs
    go_region_held3 (fun w' => w'.cell? ⟨w.heap.size, 0, none⟩ = some (.int .i64 (a : Int)) ∧ w'.cell? ⟨w.heap.size, 1, none⟩ = some (.int .i64 (b : Int))) (go_keep)
      (first
        | (go_at_call 29; refine (HP.out g gk gv (by omega) (by omega) W.drew ks vs (HM.out.below gdrew) ((HR.out.below HGW.out hB).below (gdrew (a := W)) (by omega)) (((HR'.out.below HGW.out hB).below (gdrew (a := W)) (by omega)).more (by show B ≤ W.heap.size; omega)) (fun x hx => by have := HA.out x hx; exact ⟨by omega, by omega⟩)).mono ?_; rintro e w4 ⟨⟨A4, c4, rfl, ho4⟩, ⟨ks4, vs4, hM4⟩, hT4⟩; have hz4 : W.heap.size ≤ w4.heap.size := hT4.size; have C4 := (HBY.out.below (gdrew (a := W)) hwl).tw hT4 (by omega) (by omega); have e2 : w4.cell? ⟨w.heap.size, 0, none⟩ = some (.int .i64 (a : Int)) := C4.cell 0; have e3 : w4.cell? ⟨w.heap.size, 1, none⟩ = some (.int .i64 (b : Int)) := C4.cell 1; have G4 := Tw.below (HGW.out.trans (gdrew (a := W) |>.mono hwW)) hT4 (by omega) (by omega))
        | (go_at_call 28; refine (HF.out g gk gv (by omega) (by omega) w4 A4 c4 ks4 vs4 hM4 (HR.out.below G4 hB) (Own.rd ho4) (fun x hx => by subst hx; have h : W.heap.size ≤ x.block := (ho4.lt x.block rfl).1; exact ⟨by omega, by omega⟩)).mono ?_; rintro e w5 ⟨rfl, ⟨ks5, vs5, hM5⟩, hT5⟩; have C5 := C4.tw hT5 (by omega) (by omega); have f2 : w5.cell? ⟨w.heap.size, 0, none⟩ = some (.int .i64 (a : Int)) := C5.cell 0; have f3 : w5.cell? ⟨w.heap.size, 1, none⟩ = some (.int .i64 (b : Int)) := C5.cell 1; have G5 := Tw.below G4 hT5 (by omega) (by omega)))
    all_goals
      have HE := Lib.hid G5
      have HMO := Lib.hid fun W => most_any k W
      clear G5 G4 ho4 hM4 hM5 hT4 hT5 C4 C5 e2 e3 f2 f3 p0 p1
      rw [← HV.out] at HMO
      by_cases hk0 : 0 ≤ k
      · have HN2 : Hid (clB cs a b p = true) := Lib.hid (HN.out.trans (decide_eq_true hk0))
        clear HV HN
        go_wp2_with (go_at_call 30; (with_reducible refine (HMO.out _).mono ?_); rintro e w6 ⟨rfl, rfl⟩)
        go_ret2
        exact ⟨by rw [HN2.out]; rfl, HE.out⟩
      · clear HV
        go_wp2_with (go_at_call 30; (with_reducible refine (HMO.out _).mono ?_); rintro e w6 ⟨rfl, rfl⟩)
        go_ret2
        exact ⟨by rw [HN.out]; rfl, HE.out⟩

set_option maxRecDepth 100000 in
set_option maxHeartbeats 1600000 in
theorem lawClass (a : Option Addr) (len cap : Nat) (zs : List Int) (s m : Int) (a' : Option Addr) (len' cap' : Nat) (zs' : List Int) (w : World) (h : IsRow .i64 w a len cap zs) (hp : (Lit.int .i64 s).wf = true) (hl : (Lit.int .i64 m).wf = true) (h' : IsRow .i64 w a' len' cap' zs') :
    Calls Try.prog 3 #[.slice a len cap, .agg #[.int .i64 s, .int .i64 m], .slice a' len' cap'] w fun e w' => e = .returned (.bool true) ∧ Below w.heap.size w w' := by
  clear hp hl
  obtain ⟨hr, hl⟩ := h.rd
  obtain ⟨hr', hl'⟩ := h'.rd
  clear h h'
  generalize zs.take len = xs at hr hl
  generalize zs'.take len' = ys at hr' hl'
  subst hl hl'
  have h1 := hr.len
  have h2 := hr.max
  have h3 := hr'.len
  have h4 := hr'.max
  by_cases hbig : 1048576 < xs.length
  · go_enter Try.func3, Try.ntmps3
    go_wp2
    go_ret
    first | exact ⟨rfl, Below.refl _ _⟩ | exact ⟨rfl, bel1 _ _⟩
  by_cases hbig' : 1048576 < ys.length
  · go_enter Try.func3, Try.ntmps3
    go_wp2
    go_ret
    first | exact ⟨rfl, Below.refl _ _⟩ | exact ⟨rfl, bel1 _ _⟩
  have hsm : xs.length ≤ 1048576 := by omega
  have hsm' : ys.length ≤ 1048576 := by omega
  have HS := Lib.hid fun A A' c c' W => classOfS_any A A' c c' s m xs ys W W.heap.size (Nat.le_refl _)
  have HI := Lib.hid fun A A' c c' W => classOfI_any A A' c c' s m xs ys W W.heap.size (Nat.le_refl _)
  obtain ⟨v, hv⟩ : ∃ v, v = clV xs s m ys := ⟨_, rfl⟩
  obtain ⟨ok, hok⟩ : ∃ ok, ok = clB xs s m ys := ⟨_, rfl⟩
  rw [← hv, ← hok] at HS HI
  clear hv hok
  have hne : (v != v) = false := by simp
  have hbe : (ok != ok) = false := by cases ok <;> rfl
  have hxx : decide (xs = xs) = true := decide_eq_true rfl
  have hyy : decide (ys = ys) = true := decide_eq_true rfl
  go_enter Try.func3, Try.ntmps3
  go_wp2_with fail
  have hzW : w.heap.size < (w.alloc (.cells #[.int .i64 s, .int .i64 m] 24)).heap.size := by simp
  have hAW : Below w.heap.size w (w.alloc (.cells #[.int .i64 s, .int .i64 m] 24)) := (Below.refl _ _).alloc (Nat.le_refl _) _
  have c0W : (w.alloc (.cells #[.int .i64 s, .int .i64 m] 24)).cell? ⟨w.heap.size, 0, none⟩ = some (.int .i64 s) := by simp [go_sem]
  have c1W : (w.alloc (.cells #[.int .i64 s, .int .i64 m] 24)).cell? ⟨w.heap.size, 1, none⟩ = some (.int .i64 m) := by simp [go_sem]
  generalize w.alloc (.cells #[.int .i64 s, .int .i64 m] 24) = W at *
  have hzz := hAW.size
  have HC0 := Lib.hid fun w' (hg : Below W.heap.size W w') => (hg.cell (p := ⟨w.heap.size, 0, none⟩) hzW).trans c0W
  have HC1 := Lib.hid fun w' (hg : Below W.heap.size W w') => (hg.cell (p := ⟨w.heap.size, 1, none⟩) hzW).trans c1W
  have HAW := Lib.hid hAW
  have hrW := (hr.below hAW (Nat.le_refl _)).more hzz
  clear hr
  have hr := hrW
  clear hrW hAW
  have hrW' := (hr'.below HAW.out (Nat.le_refl _)).more hzz
  clear hr'
  have hr' := hrW'
  clear hrW'
  have g0 := Below.refl W.heap.size W
  have tok1 : True := trivial
  have v0 := HC0.out _ g0
  have v1 := HC1.out _ g0
  go_region_held3 (fun w' => w'.cell? ⟨w.heap.size, 0, none⟩ = some (.int .i64 s) ∧ w'.cell? ⟨w.heap.size, 1, none⟩ = some (.int .i64 m)) (go_keep)
    (first
      | (have _t := tok1; go_at_call 9; refine (toIntS_any _ _ xs W.drew _ g0.size (hr.below (g0.trans (gdrew (a := W) |>.mono g0.size)) (Nat.le_refl _)) hsm).mono ?_; rintro e w1 ⟨A1, c1, rfl, ho1, hb1⟩; clear tok1 _t; have g1 := gtr g0 (gtr (gdrew (a := W)) hb1); have s0 := HC0.out _ g1; have s1 := HC1.out _ g1)
      | (go_at_call 10; refine (toBox_any s m _).mono ?_; rintro e wa ⟨rfl, hba⟩; have ga := gtr g1 hba; have t0 := HC0.out _ ga; have t1 := HC1.out _ ga)
      | (go_at_call 9; refine (toIntS_any _ _ ys wa _ ga.size (hr'.below ga (Nat.le_refl _)) hsm').mono ?_; rintro e w2 ⟨A2, c2, rfl, ho2, hb2⟩; have g2 := gtr ga hb2; have u0 := HC0.out _ g2; have u1 := HC1.out _ g2)
      | (go_at_call 8; refine (HS.out A1 A2 c1 c2 _ (((ho1.below hba).below hb2).rd rfl) (ho2.rd rfl) (fun q hq => by subst hq; exact ((own_ints.1 ho2).lt q.block rfl).2)).mono ?_; rintro e w3 ⟨rfl, hb3⟩; have g3 := gtr g2 hb3; have x0 := HC0.out _ g3; have x1 := HC1.out _ g3))
  clear ho1 hb1 hba ho2 hb2 hb3 s0 s1 t0 t1 u0 u1 x0 x1 v0 v1
  go_wp2_with fail
  ((with_reducible refine (toIntS_any _ _ xs _ _ g3.size (hr.below g3 (Nat.le_refl _)) hsm).mono ?_); rintro e w4 ⟨A4, c4, rfl, ho4, hb4⟩)
  have g4 := gtr g3 hb4
  go_wp2_with fail
  ((with_reducible refine (toIntS_any _ _ ys _ _ g4.size (hr'.below g4 (Nat.le_refl _)) hsm').mono ?_); rintro e w5 ⟨A5, c5, rfl, ho5, hb5⟩)
  have g5 := gtr g4 hb5
  have hx5 := ho4.below hb5
  have v0 := HC0.out _ g5
  have v1 := HC1.out _ g5
  clear ho4
  go_wp2_with fail
  ((with_reducible refine (toBox_any s m _).mono ?_); rintro e wb ⟨rfl, hbb⟩)
  have gb := gtr g5 hbb
  have hxb := hx5.below hbb
  have hyb := ho5.below hbb
  have hA5 : ∀ q, A5 = some q → q.block < wb.heap.size := fun q hq => by subst hq; exact ((own_ints.1 hyb).lt q.block rfl).2
  clear v0 v1 hx5 ho5
  go_wp2_with fail
  ((with_reducible refine (HI.out A4 A5 c4 c5 _ (hxb.rd rfl) (hyb.rd rfl) hA5).mono ?_); rintro e w8 ⟨rfl, hb8⟩)
  have g8 := gtr gb hb8
  have hx8 := hxb.below hb8
  have hy8 := hyb.below hb8
  clear hxb hyb
  go_wp2_with fail
  ((with_reducible refine (toIntS_any _ _ xs _ _ g8.size (hr.below g8 (Nat.le_refl _)) hsm).mono ?_); rintro e w9 ⟨A9, c9, rfl, ho9, hb9⟩)
  have g9 := gtr g8 hb9
  have hx9 := hx8.below hb9
  have hy9 := hy8.below hb9
  go_wp2_with fail
  ((with_reducible refine (eqIntS_any _ _ _ _ xs xs _ _ (Nat.le_refl _) (hx9.rd rfl) (ho9.rd rfl)).mono ?_); rintro e wA ⟨rfl, hbA⟩)
  have gA := gtr g9 hbA
  have hyA := hy9.below hbA
  clear hx8 hy8 hx9 hy9 ho9
  go_wp2_with fail
  ((with_reducible refine (toIntS_any _ _ ys _ _ gA.size (hr'.below gA (Nat.le_refl _)) hsm').mono ?_); rintro e wB ⟨AB, cB, rfl, hoB, hbB⟩)
  have gB := gtr gA hbB
  have hyB := hyA.below hbB
  go_wp2_with fail
  ((with_reducible refine (eqIntS_any _ _ _ _ ys ys _ _ (Nat.le_refl _) (hyB.rd rfl) (hoB.rd rfl)).mono ?_); rintro e wC ⟨rfl, hbC⟩)
  go_wp2
  go_ret
  exact ⟨rfl, gtr HAW.out (gtr gB hbC)⟩
end Go.Proofs.Ytbledcogbkeneaa
