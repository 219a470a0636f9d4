/- The losing classes: the reference's, by contract. Conditions: none. -/
import Derived.Test.YtbledcogbkeneaaLos
namespace Go.Proofs.Ytbledcogbkeneaa
open Go.RowKit Go.Maps
set_option linter.unusedVariables false

/-- The classes of the lost ones among the first j, rising. -/
def PlP (cs : List Int) (L : List (List Int)) (j : Nat) (xs : List Int) : Prop :=
  Ris xs ∧ (∀ x, x ∈ xs ↔ ∃ i, i < j ∧ mz cs (gl L i) = 0 ∧ x = gi (quo cs L) i) ∧ xs.length ≤ j
theorem PlP.zero (cs : List Int) (L : List (List Int)) : PlP cs L 0 [] := ⟨List.Pairwise.nil, fun x => ⟨fun h => (by cases h), fun ⟨i, h, _⟩ => absurd h (by omega)⟩, by simp⟩
theorem PlP.put {cs : List Int} {L : List (List Int)} {j : Nat} {xs : List Int} (h : PlP cs L j xs) (h0 : mz cs (gl L j) = 0) : PlP cs L (j + 1) (putI xs (gi (quo cs L) j)) := by
  refine ⟨putI_ris xs _ h.1, fun x => ?_, Nat.le_trans (putI_len xs _) (by have := h.2.2; omega)⟩
  rw [putI_mem, h.2.1]
  constructor
  · rintro (rfl | ⟨i, hi, h1, h2⟩)
    · exact ⟨j, by omega, h0, rfl⟩
    · exact ⟨i, by omega, h1, h2⟩
  · rintro ⟨i, hi, h1, h2⟩
    by_cases e : i = j
    · subst e; exact .inl h2
    · exact .inr ⟨i, by omega, h1, h2⟩
theorem PlP.skip {cs : List Int} {L : List (List Int)} {j : Nat} {xs : List Int} (h : PlP cs L j xs) (h0 : ¬ mz cs (gl L j) = 0) : PlP cs L (j + 1) xs := by
  refine ⟨h.1, fun x => ?_, by have := h.2.2; omega⟩
  rw [h.2.1]
  constructor
  · rintro ⟨i, hi, h1, h2⟩; exact ⟨i, by omega, h1, h2⟩
  · rintro ⟨i, hi, h1, h2⟩
    by_cases e : i = j
    · subst e; exact absurd h1 h0
    · exact ⟨i, by omega, h1, h2⟩
theorem PlP.end {cs : List Int} {size many : Nat} {L : List (List Int)} {xs : List Int} (hL : L = allTo size (many + 1)) (hb : size * many ≤ 6) (h : PlP cs L L.length xs) : xs = los cs L L.length := by
  subst hL
  exact ris_ext _ _ h.1 (los_sorted _ _ _) fun x => (h.2.1 x).trans (los_same hb x)

set_option maxRecDepth 100000 in
set_option maxHeartbeats 3200000 in
theorem losersS_any (cs : List Int) (hg : goodCode cs) (Ac : Option Addr) (cc B0 g gk gv : Nat) (hk0 : B0 ≤ gk) (hv0 : B0 ≤ gv) (size many : Nat) (hs : size ≤ 6) (hm : many ≤ 6) (hsm : size * many ≤ 6) (w : World) (ks vs : List Int)
    (hM : BookM w g gk gv Ac cc cs ks vs) (hcode : RdI w B0 Ac cc cs) :
    Calls Try.prog 36 #[.pointer (some ⟨g, 0, none⟩), .agg #[.int .i64 size, .int .i64 many]] w fun e w' =>
      (∃ A3 c3, e = .returned (.slice A3 (los cs (allTo size (many + 1)) (allTo size (many + 1)).length).length c3) ∧ RdI w' w'.heap.size A3 c3 (los cs (allTo size (many + 1)) (allTo size (many + 1)).length)) ∧ (∃ ks' vs', BookM w' g gk gv Ac cc cs ks' vs') ∧ Tw w w' gk gv := by
  obtain ⟨hgl, hgkl, hgvl⟩ := hM.lt
  have HCODE := Lib.hid hcode
  have hLle := allTo_le size hs (many + 1) (by omega)
  have HV := Lib.hid fun (p : List Int) (w : World) (A : Option Addr) (c : Nat) (ks vs : List Int) (hp : Hp 20 p) (hM : BookM w g gk gv Ac cc cs ks vs) (hcode : RdI w B0 Ac cc cs) (hr : RdI w w.heap.size A c p) (hne : ∀ a, A = some a → a.block ≠ gk ∧ a.block ≠ gv) => valS cs hg Ac cc B0 g gk gv hk0 hv0 p w A c ks vs hp hM hcode hr hne
  have HQ := Lib.hid fun (w : World) (ks vs : List Int) (hM : BookM w g gk gv Ac cc cs ks vs) (hcode : RdI w B0 Ac cc cs) => quotientS_any cs hg Ac cc B0 g gk gv hk0 hv0 size many hs hm hsm w ks vs hM hcode
  have HPOS := Lib.hid fun W => l20All_any size many hs hm W
  have HHP := Lib.hid fun (x : List Int) (h : x ∈ allTo size (many + 1)) => allTo_hp h hsm
  have HEND := Lib.hid fun (L : List (List Int)) (xs : List Int) (hL : L = allTo size (many + 1)) => PlP.end (cs := cs) (xs := xs) hL hsm
  obtain ⟨L, hL⟩ : ∃ L, L = allTo size (many + 1) := ⟨_, rfl⟩
  have HE := Lib.hid fun xs => HEND.out L xs hL
  rw [← hL] at HQ HHP hLle HPOS ⊢
  clear hL hg HEND
  obtain ⟨W, hW⟩ : ∃ W, W = (w.alloc (.cells #[.int .i64 size, .int .i64 many] 28)).alloc (.cells #[] 3) := ⟨_, rfl⟩
  have hz1 : (w.alloc (.cells #[.int .i64 size, .int .i64 many] 28)).heap.size = w.heap.size + 1 := by simp
  have hbW : Below w.heap.size w W := by rw [hW]; exact bel2 _ _ _
  have hBY : Blk W w.heap.size 28 #[.int .i64 size, .int .i64 many] := by rw [hW]; exact (Blk.new _ _ _).alloc _
  have hOO : Own W (w.heap.size + 1) 3 (.slice (some ⟨w.heap.size + 1, 0, none⟩) 0 0) (ints []) := by
    have := Own.empty (w.alloc (.cells #[.int .i64 size, .int .i64 many] 28)) 3 3 (w.heap.size + 1) (by omega)
    rw [hz1] at this
    rw [hW]; exact this
  have hzW : W.heap.size = w.heap.size + 2 := by rw [hW]; simp
  have hMW := hM.below hbW
  have hTW : Tw w W gk gv := Tw.of_below hbW
  have hcW := hcode.below hbW (by omega)
  clear hM hcode hz1
  go_enter Try.func36, Try.ntmps36
  go_wp2_with fail
  rw [← hW]
  clear hW
  ((with_reducible refine (HPOS.out W).mono ?_); rintro e w2 ⟨A2, c2, rfl, hF2, hb2⟩)
  have hz2 := hb2.size
  have hR2 := FrR.rd hF2
  have hM2 := hMW.below hb2
  have hBY2 := hBY.below hb2 (by omega)
  have hOO2 := hOO.below hb2
  have hT2 := hTW.below' hb2
  have p0 : w2.cell? ⟨w.heap.size, 0, none⟩ = some (.int .i64 (size : Int)) := hBY2.cell 0
  have p1 : w2.cell? ⟨w.heap.size, 1, none⟩ = some (.int .i64 (many : Int)) := hBY2.cell 1
  have HQ2 := Lib.hid (HQ.out w2 ks vs hM2 (hcW.below hb2 (by omega)))
  obtain ⟨lo2, hlo2⟩ : ∃ lo2, lo2 = W.heap.size := ⟨_, rfl⟩
  obtain ⟨B2, hB2⟩ : ∃ B2, B2 = w2.heap.size := ⟨_, rfl⟩
  rw [← hlo2, ← hB2] at hR2
  have hl0 : lo2 = w.heap.size + 2 := by omega
  have hl1 : lo2 ≤ B2 := by omega
  have HR2 := Lib.hid hR2; have HOO2 := Lib.hid hOO2; have HT2 := Lib.hid hT2
  clear hF2 hb2 hOO hBY hMW hTW hM2 hcW hlo2 hzW hz2 hR2 hOO2 hBY2 hT2
  go_wp2_with fail
  ((with_reducible refine (HQ2.out).mono ?_); rintro e w4 ⟨⟨A4, c4, rfl, ho4⟩, ⟨ks4, vs4, hM4⟩, hT4⟩)
  have hz4 := hT4.size
  have hlo4 : Lo B2 A4 := fun a ha => by subst ha; rw [hB2]; exact (ho4.lt a.block rfl).1
  obtain ⟨BQ, hBQ⟩ : ∃ BQ, BQ = w4.heap.size := ⟨_, rfl⟩
  have hq4 : RdI w4 BQ A4 c4 (quo cs L) := by rw [hBQ]; exact Own.rd ho4
  have hR4 := HR2.out.tw hT4 (by omega) (.inl (by omega)) (.inl (by omega))
  have hOO4 := HOO2.out.tw hT4 (fun k hk => by have := (HOO2.out.lt k hk).1; exact ⟨by omega, by omega⟩)
  have hTT4 := HT2.out.trans hT4
  have hl2 : B2 ≤ BQ := by omega
  have hBw : BQ ≤ w4.heap.size := by omega
  have hOr : RdI w4 w4.heap.size (some ⟨w.heap.size + 1, 0, none⟩) 0 [] := Own.rd hOO4
  have hOl : Lo (w.heap.size + 1) (some ⟨w.heap.size + 1, 0, none⟩) := Lo.own hOO4
  obtain ⟨gO, hgO⟩ : ∃ gO, gO = w.heap.size + 1 := ⟨_, rfl⟩
  obtain ⟨bS, hbSe⟩ : ∃ bS, bS = w.heap.size + 1 := ⟨_, rfl⟩
  rw [← hgO] at hOr hOl ⊢
  rw [hgO, ← hbSe, hbSe, ← hgO] at hOl
  have hOl2 : Lo bS (some ⟨gO, 0, none⟩) := by rw [hbSe, ← hgO]; exact hOl
  have HQL := Lib.hid (quo_len cs L)
  have hqm := hq4.max
  have hql := hq4.len
  rw [quo_len] at hql
  have hPl := PlP.zero cs L
  clear ho4 hT4 HR2 HOO2 HT2 HQ2 hOO4 hgO hB2 hBQ p0 p1 hz4 hOl
  go_wp2
  go_loopw [5, 8] (fun v5 s wi => ∃ (j : Nat) (AO : Option Addr) (cO : Nat) (xs ks vs : List Int), s = .int .i64 j ∧ j ≤ L.length ∧ v5 = .slice AO xs.length cO ∧ PlP cs L j xs ∧ RdI wi wi.heap.size AO cO xs ∧ Lo bS AO ∧ RdR wi lo2 B2 A2 c2 L ∧ RdI wi BQ A4 c4 (quo cs L) ∧ BookM wi g gk gv Ac cc cs ks vs ∧ Tw w wi gk gv ∧ BQ ≤ wi.heap.size) (fun _ s _ => L.length - (intOf s).toNat)
  case atStart => exact ⟨0, some ⟨gO, 0, none⟩, 0, [], ks4, vs4, rfl, by omega, rfl, hPl, hOr, hOl2, hR4, hq4, hM4, hTT4, hBw⟩
  case round =>
    clear hPl hOr hOl2 hR4 hq4 hM4 hTT4 hBw
    obtain ⟨j, AO, cO, xs, ks, vs, rfl, hj, rfl, hPl, hOr, hOl, hRR, hq, hM, hT, hBw⟩ := hrel
    by_cases hlt : j < L.length
    · have hLw := hT.size
      have hxl := hPl.2.2
      obtain ⟨bL, oL, rfl, hloL, hbL, hcL⟩ := hRR.atLo (j := j) hlt
      obtain ⟨Aj, cj, hcj, hrj, hloj⟩ := hcL j hlt
      have hbj : ∀ a, Aj = some a → a.block ≠ gk ∧ a.block ≠ gv := fun a ha => by have := hloj a ha; exact ⟨by omega, by omega⟩
      have hpj := HHP.out (gl L j) (by rw [gl_lt hlt]; exact List.getElem_mem hlt)
      have HCJ := Lib.hid (HV.out (gl L j) wr Aj cj ks vs hpj hM (HCODE.out.twLow hT (by omega) hk0 hv0) (hrj.more (by omega)) hbj)
      have HPL := Lib.hid hPl; have HOR := Lib.hid hOr; have HOL := Lib.hid hOl; have HRR := Lib.hid hRR; have HQQ := Lib.hid hq; have HT := Lib.hid hT
      have HPT := Lib.hid fun h => hPl.put (j := j) h
      have HPS := Lib.hid fun h => hPl.skip (j := j) h
      obtain ⟨u, hu⟩ : ∃ u, u = gi (quo cs L) j := ⟨_, rfl⟩
      rw [← hu] at HPT
      have HU := Lib.hid hu
      obtain ⟨z, hzz⟩ : ∃ z, z = mz cs (gl L j) := ⟨_, rfl⟩
      rw [← hzz] at HCJ HPT HPS
      clear hPl hOr hOl hRR hq hM hT hcL hrj hloj hbj hpj hu hzz
      go_wp2_with fail
      ((with_reducible refine (HCJ.out).mono ?_); rintro e w5 ⟨rfl, ⟨ks5, vs5, hM5⟩, hT5⟩)
      have hz5 := hT5.size
      have HRR5 := Lib.hid (HRR.out.tw hT5 (by omega) (.inl (by omega)) (.inl (by omega)))
      have HQ5 : Hid (RdI w5 BQ A4 c4 (quo cs L)) := Lib.hid (Rd.tw HQQ.out hlo4 hT5 hBw (.inl (by omega)) (.inl (by omega)))
      have HO5 : Hid (RdI w5 w5.heap.size AO cO xs) := Lib.hid ((Rd.tw HOR.out HOL.out hT5 (Nat.le_refl _) (.inl (by omega)) (.inl (by omega)) : RdI w5 wr.heap.size AO cO xs).more hz5)
      have HM5 := Lib.hid hM5
      have HT5 := Lib.hid (HT.out.trans hT5)
      clear hM5 hT5 hcj
      by_cases hz0 : z = 0
      · have ht2 : ((z : Int) == 0) = true := by rw [hz0]; rfl
        have HN := Lib.hid (HPT.out hz0)
        clear HPT HPS hz0
        obtain ⟨bq, oq, hA4, hbq, hcq⟩ := HQ5.out.at (j := j) (by rw [HQL.out]; exact hlt)
        have hcqj := hcq j (by rw [HQL.out]; exact hlt)
        rw [← HU.out] at hcqj
        subst hA4
        have HPU := Lib.hid (lput_any bS AO cO xs u w5 w5.heap.size (Nat.le_refl _) (by omega) HOL.out HO5.out (by omega))
        clear hcq
        go_wp2_with fail
        ((with_reducible refine (HPU.out).mono ?_); rintro e w6 ⟨A6, c6, rfl, hr6, hl6, hb6⟩)
        have hz6 := hb6.size
        have HR6 := Lib.hid hr6; have HL6 := Lib.hid hl6; have HB6 := Lib.hid hb6
        clear hr6 hl6 hb6
        go_wp2
        go_roundw
        case rel => exact ⟨j + 1, A6, c6, putI xs u, ks5, vs5, by go_num, by omega, rfl, HN.out, HR6.out, HL6.out, HRR5.out.below HB6.out (by omega), HQ5.out.below HB6.out (by omega), HM5.out.below HB6.out, HT5.out.below' HB6.out, by omega⟩
        case measure => simp [intOf]; omega
      · have ht2 : ((z : Int) == 0) = false := by simp; omega
        have HN := Lib.hid (HPS.out hz0)
        clear HPT HPS hz0
        go_wp2
        go_roundw
        case rel => exact ⟨j + 1, AO, cO, xs, ks5, vs5, by go_num, by omega, rfl, HN.out, HO5.out, HOL.out, HRR5.out, HQ5.out, HM5.out, HT5.out, by omega⟩
        case measure => simp [intOf]; omega
    · obtain rfl : j = L.length := by omega
      have hres := HE.out xs hPl
      have HM := Lib.hid hM; have HT := Lib.hid hT; have HO := Lib.hid hOr
      have HRES := Lib.hid hres
      clear hRR hM hT hOr hOl hq hPl hres
      go_wp2
      go_ret
      exact ⟨⟨AO, cO, by rw [← HRES.out]; rfl, by rw [← HRES.out]; exact HO.out⟩, ⟨ks, vs, HM.out⟩, HT.out⟩
end Go.Proofs.Ytbledcogbkeneaa
