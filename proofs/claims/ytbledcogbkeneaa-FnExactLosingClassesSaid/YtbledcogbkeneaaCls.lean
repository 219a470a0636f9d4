/- The class of a position: the program's and the reference's, by contracts. Conditions: none. -/
import Derived.Test.YtbledcogbkeneaaTgA
import Derived.Test.YtbledcogbkeneaaEqB
namespace Go.Proofs.Ytbledcogbkeneaa
open Go.RowKit Go.Maps
set_option linter.unusedVariables false

theorem RdB.tw {w w' : World} {a b B c : Nat} {A : Option Addr} {xs : List Bool} (h : RdB w B A c xs) (ht : Tw w w' a b) (hB : B ≤ w.heap.size) (hn : ∀ p, A = some p → p.block ≠ a ∧ p.block ≠ b) : RdB w' B A c xs := by
  refine ⟨h.1, h.2.1, h.2.2.1, fun j hj => ?_⟩
  obtain ⟨k, o, e, hb, hc⟩ := h.2.2.2 j hj
  have hne := hn _ e
  exact ⟨k, o, e, hb, fun i v hi => (World.cell?_of_block (a := ⟨k, o + i, none⟩) (ht.2.2.2.2 k (by omega) hne.1 hne.2)).trans (hc i v hi)⟩
theorem RdR.atLo {w : World} {lo B c : Nat} {A : Option Addr} {xss : List (List Int)} (h : RdR w lo B A c xss) {j : Nat} (hj : j < xss.length) :
    ∃ b o, A = some ⟨b, o, none⟩ ∧ lo ≤ b ∧ b < B ∧ ∀ i, i < xss.length → ∃ Ai ci, w.cell? ⟨b, o + i, none⟩ = some (.slice Ai (gl xss i).length ci) ∧ RdI w B Ai ci (gl xss i) ∧ Lo lo Ai := by
  obtain ⟨cs, h1, hl, h2⟩ := h
  obtain ⟨b, o, hA, hb, hc⟩ := h1.at (j := j) (by rw [h2.1]; exact hj)
  refine ⟨b, o, hA, hl _ hA, hb, fun i hi => ?_⟩
  obtain ⟨Ai, ci, k1, k2, k3⟩ := h2.2 i hi
  exact ⟨Ai, ci, hc i _ k1, k2, k3⟩
theorem allTo_pos {size many : Nat} {L : List (List Int)} (hL : L = allTo size (many + 1)) (hsm : size * many ≤ 6) (j : Nat) (h : j < L.length) : (∀ x ∈ gl L j, 0 ≤ x) ∧ sm (gl L j) + (size * many : Nat) ≤ 20 ∧ (gl L j).length ≤ 1000 ∨ 6 < many := by
  by_cases hm : 6 < many
  · exact .inr hm
  · left
    have hmem : gl L j ∈ allTo size (many + 1) := by rw [← hL, gl_lt h]; exact List.getElem_mem h
    have h1 := allTo_mem hmem
    have h2 := allTo_sm hmem
    exact ⟨fun x hx => by have := h1.1 x hx; omega, by omega, by have := h1.2.2; omega⟩

set_option maxRecDepth 100000 in
set_option maxHeartbeats 3200000 in
theorem classI_any (cs : List Int) (hg : goodCode cs) (Ac : Option Addr) (cc B0 b : Nat) (hk0 : B0 ≤ b) (size many : Nat) (hs : size ≤ 6) (hm : many ≤ 6) (hsm : size * many ≤ 6) (xs : List Int) (w : World) (A : Option Addr) (c : Nat) (K : List (List Int))
    (hx : ∀ x ∈ xs, 0 ≤ x) (hxs : sm xs + (size * many : Nat) ≤ 20) (hxl : xs.length ≤ 1000) (hM : MapM w b cs K) (hcode : RdI w B0 Ac cc cs) (hr : RdI w w.heap.size A c xs) (hxb : ∀ a, A = some a → a.block ≠ b) :
    Calls Try.prog 33 #[.agg #[.slice Ac cs.length cc, .map (some b)], .agg #[.int .i64 size, .int .i64 many], .slice A xs.length c] w fun e w' =>
      e = .returned (.int .i64 (cl cs (allTo size (many + 1)) (sg cs (allTo size (many + 1)) xs))) ∧ (∃ K', MapM w' b cs K') ∧ w.grownBy w' (some b) := by
  have hbl := hM.lt
  have HCODE := Lib.hid hcode
  have hLle := allTo_le size hs (many + 1) (by omega)
  have HP := Lib.hid fun (x : List Int) (hx : ∀ y ∈ x, 0 ≤ y) (hxs : sm x + (size * many : Nat) ≤ 20) (hxl : x.length ≤ 1000) (w : World) (A : Option Addr) (c : Nat) (K : List (List Int)) (hM : MapM w b cs K) (hcode : RdI w B0 Ac cc cs) (hr : RdI w w.heap.size A c x) (hxb : ∀ a, A = some a → a.block ≠ b) => signsI_any cs hg Ac cc B0 b hk0 size many hs hm hsm x w A c K hx hxs hxl hM hcode hr hxb
  have HPOS := Lib.hid fun W => positions_any size many hs hm W
  have HROW := Lib.hid fun (L : List (List Int)) (hL : L = allTo size (many + 1)) => allTo_pos hL hsm
  obtain ⟨L, hL⟩ : ∃ L, L = allTo size (many + 1) := ⟨_, rfl⟩
  have HAT := Lib.hid (HROW.out L hL)
  rw [← hL] at HP hLle HPOS ⊢
  clear hL HROW hg
  obtain ⟨W, hW⟩ : ∃ W, W = (w.alloc (.cells #[.slice Ac cs.length cc, .map (some b)] 52)).alloc (.cells #[.int .i64 size, .int .i64 many] 28) := ⟨_, rfl⟩
  have hz1 : (w.alloc (.cells #[.slice Ac cs.length cc, .map (some b)] 52)).heap.size = w.heap.size + 1 := by simp
  have hbW : Below w.heap.size w W := by rw [hW]; exact bel2 _ _ _
  have hBX : Blk W w.heap.size 52 #[.slice Ac cs.length cc, .map (some b)] := by rw [hW]; exact (Blk.new _ _ _).alloc _
  have hBY : Blk W (w.heap.size + 1) 28 #[.int .i64 size, .int .i64 many] := by rw [hW, ← hz1]; exact Blk.new _ _ _
  have hzW : W.heap.size = w.heap.size + 2 := by rw [hW]; simp
  have hMW := hM.kept (belowG hbW none) (by simp)
  have HSX := Lib.hid (HP.out xs hx hxs hxl W A c K hMW (hcode.below hbW (by omega)) ((hr.below hbW (Nat.le_refl _)).more (by omega)) hxb)
  have hgr0 := belowG hbW (some b)
  clear hM hcode hr hx hz1 hbW hMW hxb
  go_enter Try.func33, Try.ntmps33
  go_wp2_with fail
  rw [← hW]
  clear hW
  ((with_reducible refine (HSX.out).mono ?_); rintro e w1 ⟨⟨A1, c1, rfl, ho1⟩, ⟨K1, hM1⟩, hg1⟩)
  have hz1 := hg1.size
  have hBX1 := hBX.grown hg1 (by simp; omega)
  have hBY1 := hBY.grown hg1 (by simp; omega)
  have p0 : w1.cell? ⟨w.heap.size + 1, 0, none⟩ = some (.int .i64 (size : Int)) := hBY1.cell 0
  have p1 : w1.cell? ⟨w.heap.size + 1, 1, none⟩ = some (.int .i64 (many : Int)) := hBY1.cell 1
  have HO1 := Lib.hid ho1; have HM1 := Lib.hid hM1; have HG1 := Lib.hid (hgr0.trans hg1); have HBX1 := Lib.hid hBX1; have HBY1 := Lib.hid hBY1
  clear hBX hBY hg1 HSX ho1 hM1 hBX1 hBY1 hgr0
  go_wp2_with fail
  ((with_reducible refine (HPOS.out w1).mono ?_); rintro e w2 ⟨A2, c2, rfl, hF2, hb2⟩)
  have hz2 := hb2.size
  have hR2 := FrR.rd hF2
  have hM2 := HM1.out.kept (belowG hb2 none) (by simp)
  have hO2 := HO1.out.below hb2
  have hBX2 := HBX1.out.below hb2 (by omega)
  have hBY2 := HBY1.out.below hb2 (by omega)
  have hgr2 := HG1.out.trans (belowG hb2 (some b))
  obtain ⟨lo2, hlo2⟩ : ∃ lo2, lo2 = w1.heap.size := ⟨_, rfl⟩
  obtain ⟨B2, hB2⟩ : ∃ B2, B2 = w2.heap.size := ⟨_, rfl⟩
  rw [← hlo2, ← hB2] at hR2
  have hl0 : w.heap.size + 2 ≤ lo2 := by omega
  have hBw : B2 ≤ w2.heap.size := by omega
  have hWz : w.heap.size + 2 = W.heap.size := by omega
  obtain ⟨bW, hbW⟩ : ∃ bW, bW = W.heap.size := ⟨_, rfl⟩
  rw [← hbW] at hO2 hWz
  clear hF2 hb2 HO1 HM1 HG1 HBX1 HBY1 hlo2 hB2 hz1 hz2 hzW hbW p0 p1
  go_wp2
  go_loopw [17] (fun s wi => ∃ (j : Nat) (K' : List (List Int)), s = .int .i64 j ∧ j ≤ L.length ∧ (∀ i, i < j → sg cs L (gl L i) ≠ sg cs L xs) ∧ Own wi bW 4 (.slice A1 L.length c1) (bls (sg cs L xs)) ∧ RdR wi lo2 B2 A2 c2 L ∧ MapM wi b cs K' ∧ Blk wi w.heap.size 52 #[.slice Ac cs.length cc, .map (some b)] ∧ Blk wi (w.heap.size + 1) 28 #[.int .i64 size, .int .i64 many] ∧ w.grownBy wi (some b) ∧ B2 ≤ wi.heap.size) (fun s _ => L.length - (intOf s).toNat)
  case atStart => exact ⟨0, K1, rfl, by omega, fun i hi => absurd hi (by omega), hO2, hR2, hM2, hBX2, hBY2, hgr2, hBw⟩
  case round =>
    clear hO2 hR2 hM2 hBX2 hBY2 hgr2 hBw
    obtain ⟨j, K', rfl, hj, hno, hO, hRR, hM, hBX, hBY, hgr, hBw⟩ := hrel
    have HNO := Lib.hid hno; clear hno
    by_cases hlt : j < L.length
    · have hLw := hgr.size
      obtain ⟨bL, oL, rfl, hloL, hbL, hcL⟩ := hRR.atLo (j := j) hlt
      obtain ⟨Aj, cj, hcj, hrj, hloj⟩ := hcL j hlt
      have hbj : ∀ a, Aj = some a → a.block ≠ b := fun a ha => by have := hloj a ha; omega
      obtain ⟨hp0, hps, hpl⟩ := (HAT.out j hlt).resolve_right (by omega)
      have HCJ := Lib.hid (HP.out (gl L j) hp0 hps hpl wr Aj cj K' hM (Rd.grown (lo := 0) HCODE.out Lo.zero hgr (by omega) fun k hk => by injection hk with hk; omega) (hrj.more hBw) hbj)
      have q0 : wr.cell? ⟨w.heap.size, 0, none⟩ = some (.slice Ac cs.length cc) := hBX.cell 0
      have q1 : wr.cell? ⟨w.heap.size, 1, none⟩ = some (.map (some b)) := hBX.cell 1
      have p0 : wr.cell? ⟨w.heap.size + 1, 0, none⟩ = some (.int .i64 (size : Int)) := hBY.cell 0
      have p1 : wr.cell? ⟨w.heap.size + 1, 1, none⟩ = some (.int .i64 (many : Int)) := hBY.cell 1
      have HO := Lib.hid hO; have HRR := Lib.hid hRR; have HBX := Lib.hid hBX; have HBY := Lib.hid hBY; have HGR := Lib.hid hgr
      have HCL := Lib.hid fun (h : sg cs L (gl L j) = sg cs L xs) => cl_at (cs := cs) hlt h HNO.out
      have HNX := Lib.hid fun (h : ¬ sg cs L (gl L j) = sg cs L xs) (i : Nat) (hi : i < j + 1) => if hij : i = j then by rw [hij]; exact h else HNO.out i (by omega)
      clear hO hRR hM hBX hBY hgr hcL hrj hp0 hps hpl hloj hbj
      go_wp2_with fail
      ((with_reducible refine (HCJ.out).mono ?_); rintro e w3 ⟨⟨A3, c3, rfl, ho3⟩, ⟨K3, hM3⟩, hg3⟩)
      have hz3 := hg3.size
      have hO3 := HO.out.grown hg3 (by
        rcases hob : (Value.slice A1 L.length c1).ownBlock with _ | k
        · exact .inl rfl
        · refine .inr fun e => ?_
          injection e with e
          have := (HO.out.lt k hob).1
          omega)
      have hEQ := equalBl_any A3 A1 c3 c1 (sg cs L (gl L j)) (sg cs L xs) w3 w3.heap.size (Nat.le_refl _) (Own.rd ho3) (Own.rd hO3)
      rw [sg_len, sg_len] at hEQ
      have HRR3 := Lib.hid (HRR.out.grown hg3 hBw (fun k hk => by injection hk with hk; omega))
      have HBX3 := Lib.hid (HBX.out.grown hg3 (by simp; omega))
      have HBY3 := Lib.hid (HBY.out.grown hg3 (by simp; omega))
      have HM3 := Lib.hid hM3; have HO3 := Lib.hid hO3; have HG3 := Lib.hid (HGR.out.trans hg3)
      clear hO3 hM3 hg3 ho3 q0 q1 p0 p1
      by_cases he : sg cs L (gl L j) = sg cs L xs
      · have hd : decide (sg cs L (gl L j) = sg cs L xs) = true := decide_eq_true he
        rw [hd] at hEQ
        have HEQ := Lib.hid hEQ
        have HRES := Lib.hid (HCL.out he)
        clear hEQ hd he
        go_wp2_with (go_at_call 41; (with_reducible refine (HEQ.out).mono ?_); rintro e w4 ⟨rfl, hb4⟩)
        go_ret
        exact ⟨by rw [HRES.out]; rfl, ⟨K3, HM3.out.kept (belowG hb4 none) (by simp)⟩, HG3.out.trans (belowG hb4 (some b))⟩
      · have hd : decide (sg cs L (gl L j) = sg cs L xs) = false := decide_eq_false he
        rw [hd] at hEQ
        have HEQ := Lib.hid hEQ
        have HRES := Lib.hid (HNX.out he)
        clear hEQ hd he
        go_wp2_with (go_at_call 41; (with_reducible refine (HEQ.out).mono ?_); rintro e w4 ⟨rfl, hb4⟩)
        go_roundw
        case rel =>
          have hz4 := hb4.size
          exact ⟨j + 1, K3, by go_num, by omega, HRES.out, HO3.out.below hb4, HRR3.out.below hb4 (by omega), HM3.out.kept (belowG hb4 none) (by simp), HBX3.out.below hb4 (by omega), HBY3.out.below hb4 (by omega), HG3.out.trans (belowG hb4 (some b)), by omega⟩
        case measure => simp [intOf]; omega
    · obtain rfl : j = L.length := by omega
      have HM := Lib.hid hM; have HGR := Lib.hid hgr
      have HRES := Lib.hid (cl_none (cs := cs) HNO.out)
      clear hO hRR hBX hBY hM hgr
      go_wp2
      go_ret
      exact ⟨by rw [HRES.out]; rfl, ⟨K', HM.out⟩, HGR.out⟩

set_option maxRecDepth 100000 in
set_option maxHeartbeats 3200000 in
theorem firstS_any (cs : List Int) (hg : goodCode cs) (Ac : Option Addr) (cc B0 g gk gv : Nat) (hk0 : B0 ≤ gk) (hv0 : B0 ≤ gv) (size many : Nat) (hs : size ≤ 6) (hm : many ≤ 6) (hsm : size * many ≤ 6) (sn : List Bool) (hsn : sn.length = (allTo size (many + 1)).length) (w : World) (A : Option Addr) (c : Nat) (ks vs : List Int)
    (hM : BookM w g gk gv Ac cc cs ks vs) (hcode : RdI w B0 Ac cc cs) (hr : RdB w w.heap.size A c sn) (hne : ∀ a, A = some a → a.block ≠ gk ∧ a.block ≠ gv) :
    Calls Try.prog 28 #[.pointer (some ⟨g, 0, none⟩), .agg #[.int .i64 size, .int .i64 many], .slice A (allTo size (many + 1)).length c] w fun e w' =>
      e = .returned (.int .i64 (cl cs (allTo size (many + 1)) sn)) ∧ (∃ ks' vs', BookM w' g gk gv Ac cc cs ks' vs') ∧ Tw w w' gk gv := by
  obtain ⟨hgl, hgkl, hgvl⟩ := hM.lt
  have HCODE := Lib.hid hcode
  have hLle := allTo_le size hs (many + 1) (by omega)
  have HP := Lib.hid fun (x : List Int) (hx : ∀ y ∈ x, 0 ≤ y) (hxs : sm x + (size * many : Nat) ≤ 20) (hxl : x.length ≤ 1000) (w : World) (A : Option Addr) (c : Nat) (ks vs : List Int) (hM : BookM w g gk gv Ac cc cs ks vs) (hcode : RdI w B0 Ac cc cs) (hr : RdI w w.heap.size A c x) (hne : ∀ a, A = some a → a.block ≠ gk ∧ a.block ≠ gv) => signsS_any cs hg Ac cc B0 g gk gv hk0 hv0 size many hs hm hsm x w A c ks vs hx hxs hxl hM hcode hr hne
  have HPOS := Lib.hid fun W => l20All_any size many hs hm W
  have HROW := Lib.hid fun (L : List (List Int)) (hL : L = allTo size (many + 1)) => allTo_pos hL hsm
  obtain ⟨L, hL⟩ : ∃ L, L = allTo size (many + 1) := ⟨_, rfl⟩
  have HAT := Lib.hid (HROW.out L hL)
  rw [← hL] at HP hLle HPOS hsn ⊢
  have HSN := Lib.hid hsn
  have HNE := Lib.hid hne
  clear hL HROW hg hsn hne
  obtain ⟨W, hW⟩ : ∃ W, W = w.alloc (.cells #[.int .i64 size, .int .i64 many] 28) := ⟨_, rfl⟩
  have hbW : Below w.heap.size w W := by rw [hW]; exact bel1 _ _
  have hBY : Blk W w.heap.size 28 #[.int .i64 size, .int .i64 many] := by rw [hW]; exact Blk.new _ _ _
  have hzW : W.heap.size = w.heap.size + 1 := by rw [hW]; simp
  have hMW := hM.below hbW
  have hTW : Tw w W gk gv := Tw.of_below hbW
  have HR := Lib.hid hr
  clear hM hcode hr
  go_enter Try.func28, Try.ntmps28
  go_wp2_with fail
  rw [← hW]
  clear hW
  ((with_reducible refine (HPOS.out W).mono ?_); rintro e w2 ⟨A2, c2, rfl, hF2, hb2⟩)
  have hz2 := hb2.size
  have hR2 := FrR.rd hF2
  have hM2 := hMW.below hb2
  have hBY2 := hBY.below hb2 (by omega)
  have hT2 := hTW.below' hb2
  obtain ⟨lo2, hlo2⟩ : ∃ lo2, lo2 = W.heap.size := ⟨_, rfl⟩
  obtain ⟨B2, hB2⟩ : ∃ B2, B2 = w2.heap.size := ⟨_, rfl⟩
  rw [← hlo2, ← hB2] at hR2
  have hl0 : w.heap.size + 1 ≤ lo2 := by omega
  have hBw : B2 ≤ w2.heap.size := by omega
  clear hF2 hb2 hbW hBY hMW hTW hlo2 hB2 hz2 hzW
  go_wp2
  go_loopw [8] (fun s wi => ∃ (j : Nat) (ks vs : List Int), s = .int .i64 j ∧ j ≤ L.length ∧ (∀ i, i < j → sg cs L (gl L i) ≠ sn) ∧ RdR wi lo2 B2 A2 c2 L ∧ BookM wi g gk gv Ac cc cs ks vs ∧ Blk wi w.heap.size 28 #[.int .i64 size, .int .i64 many] ∧ Tw w wi gk gv ∧ B2 ≤ wi.heap.size) (fun s _ => L.length - (intOf s).toNat)
  case atStart => exact ⟨0, ks, vs, rfl, by omega, fun i hi => absurd hi (by omega), hR2, hM2, hBY2, hT2, hBw⟩
  case round =>
    clear hR2 hM2 hBY2 hT2 hBw
    obtain ⟨j, ks, vs, rfl, hj, hno, hRR, hM, hBY, hT, hBw⟩ := hrel
    have HNO := Lib.hid hno; clear hno
    by_cases hlt : j < L.length
    · have hLw := hT.size
      obtain ⟨bL, oL, rfl, hloL, hbL, hcL⟩ := hRR.atLo (j := j) hlt
      obtain ⟨Aj, cj, hcj, hrj, hloj⟩ := hcL j hlt
      have hbj : ∀ a, Aj = some a → a.block ≠ gk ∧ a.block ≠ gv := fun a ha => by have := hloj a ha; exact ⟨by omega, by omega⟩
      obtain ⟨hp0, hps, hpl⟩ := (HAT.out j hlt).resolve_right (by omega)
      have HCJ := Lib.hid (HP.out (gl L j) hp0 hps hpl wr.drew Aj cj ks vs (hM.below gdrew) ((HCODE.out.twLow hT (by omega) hk0 hv0).below (gdrew (a := wr)) (by omega)) ((hrj.below (gdrew (a := wr)) hBw).more hBw) hbj)
      have p0 : wr.cell? ⟨w.heap.size, 0, none⟩ = some (.int .i64 (size : Int)) := hBY.cell 0
      have p1 : wr.cell? ⟨w.heap.size, 1, none⟩ = some (.int .i64 (many : Int)) := hBY.cell 1
      have HRR := Lib.hid hRR; have HBY := Lib.hid hBY; have HT := Lib.hid hT
      have HCELL := Lib.hid hcj
      have HCL := Lib.hid fun (h : sg cs L (gl L j) = sn) => cl_at (cs := cs) hlt h HNO.out
      have HNX := Lib.hid fun (h : ¬ sg cs L (gl L j) = sn) (i : Nat) (hi : i < j + 1) => if hij : i = j then by rw [hij]; exact h else HNO.out i (by omega)
      have HSR := Lib.hid (HR.out.tw hT (Nat.le_refl _) HNE.out)
      have HEQ := Lib.hid fun (W' : World) (A3 : Option Addr) (c3 : Nat) (h1 : Own W' wr.heap.size 4 (.slice A3 L.length c3) (bls (sg cs L (gl L j)))) (h2 : RdB W' w.heap.size A c sn) (hW' : w.heap.size ≤ W'.heap.size) => by
        have := sameBl_any A3 A c3 c (sg cs L (gl L j)) sn W' W'.heap.size (Nat.le_refl _) (by rw [sg_len, HSN.out]) (Own.rd h1) (h2.more hW')
        rw [sg_len, HSN.out] at this
        exact this
      have hGw : w.heap.size < wr.heap.size := hBY.lt
      obtain ⟨T, hTT⟩ : ∃ T, T = sg cs L (gl L j) := ⟨_, rfl⟩
      obtain ⟨p, hp⟩ : ∃ p, p = gl L j := ⟨_, rfl⟩
      rw [← hTT] at HCL HNX HEQ HCJ
      rw [← hp] at hcj HCJ HCELL
      clear hRR hM hBY hT hcL hrj hp0 hps hpl hloj hbj hTT hp
      obtain ⟨d, hd⟩ : ∃ d, d = decide (T = sn) := ⟨_, rfl⟩
      rw [← hd] at HEQ
      have HD := Lib.hid hd; clear hd
      go_wp2
      go_region_held3 (fun w' => w'.cell? ⟨w.heap.size, 0, none⟩ = some (.int .i64 (size : Int)) ∧ w'.cell? ⟨w.heap.size, 1, none⟩ = some (.int .i64 (many : Int)) ∧ w'.cell? ⟨bL, oL + j, none⟩ = some (.slice Aj p.length cj)) (go_keep)
        (first
          | (go_at_call 29; refine (HCJ.out).mono ?_; rintro e w3 ⟨⟨A3, c3, rfl, ho3⟩, ⟨ks3, vs3, hM3⟩, hT3⟩; have hB3 := (HBY.out.below (gdrew (a := wr)) hGw).tw hT3 (by omega) (by omega); have s0 : w3.cell? ⟨w.heap.size, 0, none⟩ = some (.int .i64 (size : Int)) := hB3.cell 0; have s1 : w3.cell? ⟨w.heap.size, 1, none⟩ = some (.int .i64 (many : Int)) := hB3.cell 1; have s2 : w3.cell? ⟨bL, oL + j, none⟩ = some (.slice Aj p.length cj) := (World.cell?_of_block (a := ⟨bL, oL + j, none⟩) (hT3.2.2.2.2 bL (by show bL < wr.heap.size; omega) (by omega) (by omega))).trans HCELL.out)
          | (go_at_call 40; refine (HEQ.out w3 A3 c3 ho3 ((HSR.out.below (gdrew (a := wr)) hLw).tw hT3 hLw HNE.out) (by have := hT3.size; have h : wr.drew.heap.size = wr.heap.size := rfl; omega)).mono ?_; rintro e w4 ⟨rfl, hb4⟩; have hB4 := hB3.below hb4 (by have := hT3.size; have h : wr.drew.heap.size = wr.heap.size := rfl; omega); have s4 : w4.cell? ⟨w.heap.size, 0, none⟩ = some (.int .i64 (size : Int)) := hB4.cell 0; have s5 : w4.cell? ⟨w.heap.size, 1, none⟩ = some (.int .i64 (many : Int)) := hB4.cell 1; have s6 := (hb4.cell (p := ⟨bL, oL + j, none⟩) (by have := hT3.size; have h : wr.drew.heap.size = wr.heap.size := rfl; show bL < w3.heap.size; omega)).trans s2))
      have hz3 : wr.heap.size ≤ w3.heap.size := hT3.size
      have hz4 := hb4.size
      have HRR4 := Lib.hid (((HRR.out.below (gdrew (a := wr)) hBw).tw hT3 hBw (.inl (by omega)) (.inl (by omega))).below hb4 (by omega))
      have HT4 := Lib.hid (((HT.out.below' (gdrew (a := wr))).trans hT3).below' hb4)
      have HM4 := Lib.hid (hM3.below hb4)
      have HB4 := Lib.hid hB4
      clear hb4 hM3 hT3 hB3 hB4 ho3 s0 s1 s2 s4 s5 s6 p0 p1 hcj
      cases d with
      | true =>
        have HRES := Lib.hid (HCL.out (of_decide_eq_true HD.out.symm))
        go_wp2
        go_ret
        exact ⟨by rw [HRES.out]; rfl, ⟨ks3, vs3, HM4.out⟩, HT4.out⟩
      | false =>
        have HRES := Lib.hid (HNX.out (of_decide_eq_false HD.out.symm))
        go_wp2
        go_roundw
        case rel => exact ⟨j + 1, ks3, vs3, by go_num, by omega, HRES.out, HRR4.out, HM4.out, HB4.out, HT4.out, by omega⟩
        case measure => simp [intOf]; omega
    · obtain rfl : j = L.length := by omega
      have HM := Lib.hid hM; have HT := Lib.hid hT
      have HRES := Lib.hid (cl_none (cs := cs) HNO.out)
      clear hRR hBY hM hT
      go_wp2
      go_ret
      exact ⟨by rw [HRES.out]; rfl, ⟨ks, vs, HM.out⟩, HT.out⟩
end Go.Proofs.Ytbledcogbkeneaa
