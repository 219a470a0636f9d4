/- The classes of all box positions: the reference's, by contract. Conditions: none. -/
import Derived.Test.YtbledcogbkeneaaCls
namespace Go.Proofs.Ytbledcogbkeneaa
open Go.RowKit Go.Maps
set_option linter.unusedVariables false

set_option maxRecDepth 100000 in
set_option maxHeartbeats 3200000 in
theorem quotientS_any (cs : List Int) (hg : goodCode cs) (Ac : Option Addr) (cc B0 g gk gv : Nat) (hk0 : B0 ≤ gk) (hv0 : B0 ≤ gv) (size many : Nat) (hs : size ≤ 6) (hm : many ≤ 6) (hsm : size * many ≤ 6) (w : World) (ks vs : List Int)
    (hM : BookM w g gk gv Ac cc cs ks vs) (hcode : RdI w B0 Ac cc cs) :
    Calls Try.prog 43 #[.pointer (some ⟨g, 0, none⟩), .agg #[.int .i64 size, .int .i64 many]] w fun e w' =>
      (∃ A3 c3, e = .returned (.slice A3 (allTo size (many + 1)).length c3) ∧ Own w' w.heap.size 3 (.slice A3 (allTo size (many + 1)).length c3) (ints (quo cs (allTo size (many + 1))))) ∧ (∃ ks' vs', BookM w' g gk gv Ac cc cs ks' vs') ∧ Tw w w' gk gv := by
  obtain ⟨hgl, hgkl, hgvl⟩ := hM.lt
  have HCODE := Lib.hid hcode
  have hLle := allTo_le size hs (many + 1) (by omega)
  have HP := Lib.hid fun (x : List Int) (hx : ∀ y ∈ x, 0 ≤ y) (hxs : sm x + (size * many : Nat) ≤ 20) (hxl : x.length ≤ 1000) (w : World) (A : Option Addr) (c : Nat) (ks vs : List Int) (hM : BookM w g gk gv Ac cc cs ks vs) (hcode : RdI w B0 Ac cc cs) (hr : RdI w w.heap.size A c x) (hne : ∀ a, A = some a → a.block ≠ gk ∧ a.block ≠ gv) => signsS_any cs hg Ac cc B0 g gk gv hk0 hv0 size many hs hm hsm x w A c ks vs hx hxs hxl hM hcode hr hne
  have HF := Lib.hid fun (x : List Int) (w : World) (A : Option Addr) (c : Nat) (ks vs : List Int) (hM : BookM w g gk gv Ac cc cs ks vs) (hcode : RdI w B0 Ac cc cs) (hr : RdB w w.heap.size A c (sg cs (allTo size (many + 1)) x)) (hne : ∀ a, A = some a → a.block ≠ gk ∧ a.block ≠ gv) => firstS_any cs hg Ac cc B0 g gk gv hk0 hv0 size many hs hm hsm (sg cs (allTo size (many + 1)) x) (sg_len _ _ _) w A c ks vs hM hcode hr hne
  have HPOS := Lib.hid fun W => l20All_any size many hs hm W
  have HROW := Lib.hid fun (L : List (List Int)) (hL : L = allTo size (many + 1)) => allTo_pos hL hsm
  obtain ⟨L, hL⟩ : ∃ L, L = allTo size (many + 1) := ⟨_, rfl⟩
  have HAT := Lib.hid (HROW.out L hL)
  rw [← hL] at HP HF hLle HPOS ⊢
  clear hL HROW hg
  obtain ⟨W, hW⟩ : ∃ W, W = (w.alloc (.cells #[.int .i64 size, .int .i64 many] 28)).alloc (.cells #[] 3) := ⟨_, rfl⟩
  have hz1 : (w.alloc (.cells #[.int .i64 size, .int .i64 many] 28)).heap.size = w.heap.size + 1 := by simp
  have hbW : Below w.heap.size w W := by rw [hW]; exact bel2 _ _ _
  have hBY : Blk W w.heap.size 28 #[.int .i64 size, .int .i64 many] := by rw [hW]; exact (Blk.new _ _ _).alloc _
  have hOO : Own W (w.heap.size + 1) 3 (.slice (some ⟨w.heap.size + 1, 0, none⟩) 0 0) (ints ((quo cs L).take 0)) := by
    have := Own.empty (w.alloc (.cells #[.int .i64 size, .int .i64 many] 28)) 3 3 (w.heap.size + 1) (by omega)
    rw [hz1] at this
    rw [hW]; exact this
  have hzW : W.heap.size = w.heap.size + 2 := by rw [hW]; simp
  have hMW := hM.below hbW
  have hTW : Tw w W gk gv := Tw.of_below hbW
  clear hM hcode hz1
  go_enter Try.func43, Try.ntmps43
  go_wp2_with fail
  rw [← hW]
  clear hW
  ((with_reducible refine (HPOS.out W).mono ?_); rintro e w2 ⟨A2, c2, rfl, hF2, hb2⟩)
  have hz2 := hb2.size
  have hR2 := FrR.rd hF2
  have hM2 := hMW.below hb2
  have hBY2 := hBY.below hb2 (by omega)
  have hOO2 := hOO.below hb2
  have hT2 := hTW.below' hb2
  obtain ⟨lo2, hlo2⟩ : ∃ lo2, lo2 = W.heap.size := ⟨_, rfl⟩
  obtain ⟨B2, hB2⟩ : ∃ B2, B2 = w2.heap.size := ⟨_, rfl⟩
  rw [← hlo2, ← hB2] at hR2
  have hl0 : lo2 = w.heap.size + 2 := by omega
  have hBw : B2 ≤ w2.heap.size := by omega
  obtain ⟨gO, hgO⟩ : ∃ gO, gO = w.heap.size + 1 := ⟨_, rfl⟩
  have hbO : ∀ k, (Value.slice (some ⟨gO, 0, none⟩) 0 0).ownBlock = some k → k < lo2 ∨ B2 ≤ k := fun k hk => by
    have hk : gO = k := by injection hk
    left; omega
  have hOO3 : Own w2 (w.heap.size + 1) 3 (.slice (some ⟨gO, 0, none⟩) 0 0) (ints ((quo cs L).take 0)) := by rw [hgO]; exact hOO2
  rw [← hgO]
  clear hF2 hb2 hbW hBY hMW hTW hOO hOO2 hlo2 hB2 hz2 hzW hgO
  go_wp2
  go_loopw [5, 7] (fun v5 s wi => ∃ (j : Nat) (AO : Option Addr) (cO : Nat) (ks vs : List Int), s = .int .i64 j ∧ j ≤ L.length ∧ v5 = .slice AO j cO ∧ Own wi (w.heap.size + 1) 3 (.slice AO j cO) (ints ((quo cs L).take j)) ∧ (∀ k, (Value.slice AO j cO).ownBlock = some k → k < lo2 ∨ B2 ≤ k) ∧ RdR wi lo2 B2 A2 c2 L ∧ BookM wi g gk gv Ac cc cs ks vs ∧ Blk wi w.heap.size 28 #[.int .i64 size, .int .i64 many] ∧ Tw w wi gk gv ∧ B2 ≤ wi.heap.size) (fun _ s _ => L.length - (intOf s).toNat)
  case atStart => exact ⟨0, some ⟨gO, 0, none⟩, 0, ks, vs, rfl, by omega, rfl, hOO3, hbO, hR2, hM2, hBY2, hT2, hBw⟩
  case round =>
    clear hOO3 hbO hR2 hM2 hBY2 hT2 hBw
    obtain ⟨j, AO, cO, ks, vs, rfl, hj, rfl, hOO, hbO, hRR, hM, hBY, hT, hBw⟩ := hrel
    by_cases hlt : j < L.length
    · have hLw := hT.size
      obtain ⟨bL, oL, rfl, hloL, hbL, hcL⟩ := hRR.atLo (j := j) hlt
      obtain ⟨Aj, cj, hcj, hrj, hloj⟩ := hcL j hlt
      have hbj : ∀ a, Aj = some a → a.block ≠ gk ∧ a.block ≠ gv := fun a ha => by have := hloj a ha; exact ⟨by omega, by omega⟩
      obtain ⟨hp0, hps, hpl⟩ := (HAT.out j hlt).resolve_right (by omega)
      have HCJ := Lib.hid (HP.out (gl L j) hp0 hps hpl wr.drew Aj cj ks vs (hM.below gdrew) ((HCODE.out.twLow hT (by omega) hk0 hv0).below (gdrew (a := wr)) (by omega)) ((hrj.below (gdrew (a := wr)) hBw).more hBw) hbj)
      have p0 : wr.cell? ⟨w.heap.size, 0, none⟩ = some (.int .i64 (size : Int)) := hBY.cell 0
      have p1 : wr.cell? ⟨w.heap.size, 1, none⟩ = some (.int .i64 (many : Int)) := hBY.cell 1
      have hneO : ∀ k, (Value.slice AO j cO).ownBlock = some k → w.heap.size + 1 ≤ k ∧ k < wr.heap.size := fun k hk => hOO.lt k hk
      have HOO := Lib.hid hOO; have HBO := Lib.hid hbO; have HNO := Lib.hid hneO
      have HRR := Lib.hid hRR; have HBY := Lib.hid hBY; have HT := Lib.hid hT
      have HCELL := Lib.hid hcj
      have HFJ := Lib.hid (HF.out (gl L j))
      have hGw : w.heap.size < wr.heap.size := hBY.lt
      have hquo := quo_gi cs L j hlt
      obtain ⟨u, hu⟩ : ∃ u, u = gi (quo cs L) j := ⟨_, rfl⟩
      have HTK := Lib.hid (show (quo cs L).take (j + 1) = (quo cs L).take j ++ [u] by rw [hu]; exact take_succ_gi _ _ (by rw [quo_len]; exact hlt))
      rw [← hquo, ← hu] at HFJ
      obtain ⟨T, hTT⟩ : ∃ T, T = sg cs L (gl L j) := ⟨_, rfl⟩
      obtain ⟨p, hp⟩ : ∃ p, p = gl L j := ⟨_, rfl⟩
      rw [← hTT] at HCJ HFJ
      rw [← hp] at hcj HCJ HCELL
      have HSZ := Lib.hid (show (ints ((quo cs L).take j)).length = j by rw [ints_len, List.length_take, quo_len]; omega)
      clear hRR hM hBY hT hcL hrj hp0 hps hpl hloj hbj hTT hp hquo hu hOO hbO hneO
      go_wp2
      go_region_held3 (fun w' => w'.cell? ⟨w.heap.size, 0, none⟩ = some (.int .i64 (size : Int)) ∧ w'.cell? ⟨w.heap.size, 1, none⟩ = some (.int .i64 (many : Int)) ∧ w'.cell? ⟨bL, oL + j, none⟩ = some (.slice Aj p.length cj)) (go_keep)
        (first
          | (go_at_call 29; refine (HCJ.out).mono ?_; rintro e w3 ⟨⟨A3, c3, rfl, ho3⟩, ⟨ks3, vs3, hM3⟩, hT3⟩; have hz3 : wr.heap.size ≤ w3.heap.size := hT3.size; have hB3 := (HBY.out.below (gdrew (a := wr)) hGw).tw hT3 (by omega) (by omega); have s0 : w3.cell? ⟨w.heap.size, 0, none⟩ = some (.int .i64 (size : Int)) := hB3.cell 0; have s1 : w3.cell? ⟨w.heap.size, 1, none⟩ = some (.int .i64 (many : Int)) := hB3.cell 1; have hL3 := hT3.2.2.2.2 bL (by show bL < wr.heap.size; omega) (by omega) (by omega); have s2 : w3.cell? ⟨bL, oL + j, none⟩ = some (.slice Aj p.length cj) := (World.cell?_of_block (a := ⟨bL, oL + j, none⟩) hL3).trans HCELL.out; have HT3 := (HT.out.below' (gdrew (a := wr))).trans hT3)
          | (go_at_call 28; refine (HFJ.out w3 A3 c3 ks3 vs3 hM3 (HCODE.out.twLow HT3 (by omega) hk0 hv0) (Own.rd ho3) (fun x hx => by subst hx; have h : wr.heap.size ≤ x.block := (ho3.lt x.block rfl).1; exact ⟨by omega, by omega⟩)).mono ?_; rintro e w4 ⟨rfl, ⟨ks4, vs4, hM4⟩, hT4⟩; have hz4 := hT4.size; have hB4 := hB3.tw hT4 (by omega) (by omega); have s3 : w4.cell? ⟨w.heap.size, 0, none⟩ = some (.int .i64 (size : Int)) := hB4.cell 0; have s4 : w4.cell? ⟨w.heap.size, 1, none⟩ = some (.int .i64 (many : Int)) := hB4.cell 1; have s5 : w4.cell? ⟨bL, oL + j, none⟩ = some (.slice Aj p.length cj) := (World.cell?_of_block (a := ⟨bL, oL + j, none⟩) (hT4.2.2.2.2 bL (by omega) (by omega) (by omega))).trans s2; have o4 := (((HOO.out.below (gdrew (a := wr))).tw hT3 (fun k hk => by have := HNO.out k hk; exact ⟨by omega, by omega⟩)).tw hT4 (fun k hk => by have := HNO.out k hk; exact ⟨by omega, by omega⟩)).below (bel1 w4 (.cells #[.int .i64 u] 3)))
          | (refine step_append_at (by rfl) (.tmp 17) (.tmp 28) 22 3 (.int .i64 0) 8 (by rfl) Try.underlying22 infoInt rfl (by omega) (w.heap.size + 1) (.slice AO j cO) (ints ((quo cs L).take j)) (by rfl) (by exact o4) _ _ _ _ [.int .i64 u] (by rfl) rfl (Rd.of_blk (Blk.new_at _ _ _ (by simp)) (Nat.lt_succ_self _)) (fun u hu => by simp at hu; subst hu; rfl) (by rw [HSZ.out]; simp; omega) (by simp; omega) ?_; intro A8 c8 w8 ho8 hb8 hg8 hp8; rw [HSZ.out, List.length_singleton] at ho8 hp8 ⊢; have hB8 := (hB4.alloc (.cells #[.int .i64 u] 3)).grown hg8 (fun e => by have := HNO.out _ e.symm; omega); have s6 : w8.cell? ⟨w.heap.size, 0, none⟩ = some (.int .i64 (size : Int)) := hB8.cell 0; have s7 : w8.cell? ⟨w.heap.size, 1, none⟩ = some (.int .i64 (many : Int)) := hB8.cell 1; have s8 : w8.cell? ⟨bL, oL + j, none⟩ = some (.slice Aj p.length cj) := (World.cell?_of_block (a := ⟨bL, oL + j, none⟩) (hg8.block bL (by simp; omega) (fun e => by have := HBO.out _ e.symm; omega))).trans (((bel1 w4 (.cells #[.int .i64 u] 3)).cell (p := ⟨bL, oL + j, none⟩) (by show bL < w4.heap.size; omega)).trans s5)))
      all_goals
        have hz8 := hg8.size
        have hza : (w4.alloc (.cells #[.int .i64 u] 3)).heap.size = w4.heap.size + 1 := by simp
        have hA4 := bel1 w4 (.cells #[.int .i64 u] 3)
        have e8 : ints ((quo cs L).take j) ++ [.int .i64 u] = ints ((quo cs L).take (j + 1)) := by rw [HTK.out, ints_snoc]
        rw [e8] at ho8
        have HOO8 := Lib.hid ho8
        have HRR8 := Lib.hid (((((HRR.out.below (gdrew (a := wr)) hBw).tw hT3 hBw (.inl (by omega)) (.inl (by omega))).tw hT4 (by omega) (.inl (by omega)) (.inl (by omega))).below hA4 (by omega)).grown hg8 (by omega) (fun k hk => HBO.out k hk))
        have HM8 := Lib.hid ((hM4.below hA4).grown hg8 (fun k hk => by have := HNO.out k hk; exact ⟨by omega, by omega, by omega⟩))
        have HB8 := Lib.hid hB8
        have HT8 := Lib.hid (((HT3.trans hT4).below' hA4).grown hg8 (fun k hk => by have := HNO.out k hk; omega))
        have HBO8 : Hid (∀ k, (Value.slice A8 (j + 1) c8).ownBlock = some k → k < lo2 ∨ B2 ≤ k) := Lib.hid fun k hk => by
          rcases hp8 with e | e
          · exact HBO.out k (e.symm.trans hk)
          · rw [e] at hk; injection hk with hk; right; omega
        clear ho3 hM3 hT3 hB3 s0 s1 hL3 s2 HT3 hM4 hT4 hB4 s3 s4 s5 o4 ho8 hb8 hg8 hp8 hB8 s6 s7 s8 e8 hA4 p0 p1 hcj
        go_wp2
        go_roundw
        case rel => exact ⟨j + 1, A8, c8, ks4, vs4, by go_num, by omega, rfl, HOO8.out, HBO8.out, HRR8.out, HM8.out, HB8.out, HT8.out, by omega⟩
        case measure => simp [intOf]; omega
    · obtain rfl : j = L.length := by omega
      have hq : (quo cs L).take L.length = quo cs L := by rw [List.take_of_length_le]; rw [quo_len]; omega
      rw [hq] at hOO
      have HM := Lib.hid hM; have HT := Lib.hid hT; have HOO := Lib.hid (hOO.le (show w.heap.size ≤ w.heap.size + 1 by omega))
      clear hRR hBY hM hT hOO hbO hq
      go_wp2
      go_ret
      exact ⟨⟨AO, cO, rfl, HOO.out⟩, ⟨ks, vs, HM.out⟩, HT.out⟩
end Go.Proofs.Ytbledcogbkeneaa
