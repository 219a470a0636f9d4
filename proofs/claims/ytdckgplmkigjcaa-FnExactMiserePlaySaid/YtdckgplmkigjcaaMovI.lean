/- The program's losing positions that a move reaches, by its contract. Conditions: none. -/
import Derived.Test.YtdckgplmkigjcaaMovS
namespace Go.Proofs.Ytdckgplmkigjcaa
open Go.RowKit Go.Maps
set_option linter.unusedVariables false

/-- The positions with the value 0 among the first j. -/
noncomputable def lostP (cs : List Int) (L : List (Value × List Int)) (j : Nat) : List (Value × List Int) := (L.take j).filter fun x => decide (mz cs x.2 = 0)
theorem lostP_succ (cs : List Int) (L : List (Value × List Int)) (j : Nat) (h : j < L.length) : lostP cs L (j + 1) = if mz cs L[j].2 = 0 then lostP cs L j ++ [L[j]] else lostP cs L j := by
  unfold lostP
  rw [List.take_succ_eq_append_getElem h, List.filter_append]
  by_cases h0 : mz cs L[j].2 = 0 <;> simp [h0]
theorem lostP_sub (cs : List Int) (L : List (Value × List Int)) (j : Nat) : (lostP cs L j).Sublist L := List.filter_sublist.trans (List.take_sublist _ _)
theorem lostP_mem (cs : List Int) (L : List (Value × List Int)) (q : List Int) : q ∈ (lostP cs L L.length).map (·.2) ↔ q ∈ L.map (·.2) ∧ mz cs q = 0 := by
  unfold lostP
  rw [List.take_length, List.mem_map, List.mem_map]
  constructor
  · rintro ⟨x, hx, rfl⟩
    have := List.mem_filter.1 hx
    exact ⟨⟨x, this.1, rfl⟩, by simpa using this.2⟩
  · rintro ⟨⟨x, hx, rfl⟩, h⟩
    exact ⟨x, List.mem_filter.2 ⟨hx, by simpa using h⟩, rfl⟩
theorem own_ne {G b n c : Nat} (h : G ≠ b) : (Value.slice (some ⟨G, 0, none⟩) n c).ownBlock ≠ some b := fun e => h (by injection e)
theorem FrP.grownX {w w' : World} {lo : Nat} {row : Option Nat} {L : List (Value × List Int)} (h : FrP w lo L) (hg : w.grownBy w' row) (hne : ∀ x ∈ L, ∀ k, x.1.ownBlock = some k → row ≠ some k) : FrP w' lo L :=
  h.keep fun x hx ho => ho.grown hg (by
    rcases hob : x.1.ownBlock with _ | k
    · exact .inl rfl
    · exact .inr (Ne.symm (hne x hx k hob)))

set_option maxRecDepth 100000 in
set_option maxHeartbeats 3200000 in
theorem losing_any (cs : List Int) (hg : goodCode cs) (Ac : Option Addr) (cc B0 b : Nat) (hk0 : B0 ≤ b) (p q0 : List Int) (w : World) (A : Option Addr) (c : Nat) (K : List (List Int)) (hq : q0 = nz p) (hq20 : Hp 20 q0) (hp0 : ∀ x ∈ p, 0 ≤ x) (hpl : p.length ≤ 1000) (hM : MapM w b cs K) (hcode : RdI w B0 Ac cc cs) (hr : RdI w w.heap.size A c p) :
    Calls Try.prog 62 #[.agg #[.slice Ac cs.length cc, .map (some b)], .slice A p.length c] w fun e w' =>
      (∃ v, e = .returned v ∧ HL w' w.heap.size v 200000 (fun q => optP cs q0 q ∧ mz cs q = 0)) ∧ (∃ K', MapM w' b cs K') ∧ w.grownBy w' (some b) := by
  have HP := Lib.hid hq20
  have hbl := hM.lt
  have HCODE := Lib.hid hcode; have HG := Lib.hid hg
  obtain ⟨W, hW⟩ : ∃ W, W = (w.alloc (.cells #[.slice Ac cs.length cc, .map (some b)] 63)).alloc (.cells #[] 22) := ⟨_, rfl⟩
  have hbW : Below w.heap.size w W := by rw [hW]; exact bel2 _ _ _
  have hBX : Blk W w.heap.size 63 #[.slice Ac cs.length cc, .map (some b)] := by rw [hW]; exact (Blk.new _ _ _).alloc _
  have hzA : (w.alloc (.cells #[.slice Ac cs.length cc, .map (some b)] 63)).heap.size = w.heap.size + 1 := by simp
  have hO : Own W (w.heap.size + 1) 22 (.slice (some ⟨w.heap.size + 1, 0, none⟩) 0 0) ([] : List Value) := by
    have := Own.empty (w.alloc (.cells #[.slice Ac cs.length cc, .map (some b)] 63)) 22 22 (w.heap.size + 1) (by omega)
    rw [hzA] at this
    rw [hW]; exact this
  have hzW : W.heap.size = w.heap.size + 2 := by rw [hW]; simp
  have hMW := hM.kept (belowG hbW none) (by simp)
  have HRC := Lib.hid (reached_any cs hg Ac A cc c p q0 W W.heap.size (Nat.le_refl _) ((hcode.below hbW (by omega)).more (by omega)) ((hr.below hbW (Nat.le_refl _)).more (by omega)) hq hq20 hp0 hpl)
  have r0 : W.cell? ⟨w.heap.size, 0, none⟩ = some (.slice Ac cs.length cc) := hBX.cell 0
  clear hq hq20 hg hM hcode hr hp0 hzA
  go_enter Try.func62, Try.ntmps62
  go_wp2_with fail
  rw [← hW]
  clear hW
  go_wp2_with (go_at_call 91; (with_reducible refine (HRC.out).mono ?_); rintro e w1 ⟨⟨v1, rfl, hv1⟩, hb1⟩; obtain ⟨L, gL, cL, rfl, hOL, hPL, hgL, hsL, hlL, hmL⟩ := hv1)
  have g1 := gtr hbW hb1
  have hz1 := hb1.size
  have hM1 := hMW.kept (belowG hb1 none) (by simp)
  have hBX1 := hBX.below hb1 (by omega)
  have hO1 := hO.below hb1
  obtain ⟨lo2, hlo2⟩ : ∃ lo2, lo2 = W.heap.size := ⟨_, rfl⟩
  obtain ⟨B2, hB2⟩ : ∃ B2, B2 = w1.heap.size := ⟨_, rfl⟩
  rw [← hlo2] at hOL hPL
  have HPB : Hid (∀ x ∈ L, ∀ k, x.1.ownBlock = some k → lo2 ≤ k ∧ k < B2) := Lib.hid fun x hx k hk => by rw [hB2]; exact (hPL.1 x hx).2.lt k hk
  have hgLB : lo2 ≤ gL ∧ gL < B2 := by rw [hB2]; exact hOL.lt gL rfl
  have hblk : ∀ k, (Value.slice (some ⟨w.heap.size + 1, 0, none⟩) 0 0).ownBlock = some k → k < lo2 ∨ B2 ≤ k := fun k hk => by
    have hk : w.heap.size + 1 = k := by injection hk
    left; omega
  have hl0 : lo2 = w.heap.size + 2 := by omega
  have hBw : B2 ≤ w1.heap.size := by omega
  have hgr1 := belowG g1 (some b)
  have HSL := Lib.hid hsL; have HML := Lib.hid hmL; have HGL := Lib.hid hgL
  clear hbW hBX hO hMW HRC r0 hb1 g1 hlo2 hB2 hsL hmL hgL hz1 hzW
  go_wp2
  go_loopw [5, 14] (fun v s wi => ∃ (j : Nat) (G : Nat) (c1 : Nat) (K' : List (List Int)), s = .int .i64 j ∧ j ≤ L.length ∧ v = .slice (some ⟨G, 0, none⟩) (lostP cs L j).length c1 ∧ Own wi (w.heap.size + 1) 22 (.slice (some ⟨G, 0, none⟩) (lostP cs L j).length c1) ((lostP cs L j).map (·.1)) ∧ Own wi lo2 22 (.slice (some ⟨gL, 0, none⟩) L.length cL) (L.map (·.1)) ∧ FrP wi lo2 L ∧ MapM wi b cs K' ∧ Blk wi w.heap.size 63 #[.slice Ac cs.length cc, .map (some b)] ∧ w.grownBy wi (some b) ∧ (G < lo2 ∨ B2 ≤ G) ∧ B2 ≤ wi.heap.size) (fun _ s _ => L.length - (intOf s).toNat)
  case atStart => exact ⟨0, w.heap.size + 1, 0, K, rfl, by omega, rfl, hO1, hOL, hPL, hM1, hBX1, hgr1, .inl (by omega), hBw⟩
  case round =>
    clear hO1 hOL hPL hM1 hBX1 hgr1 hblk hBw
    obtain ⟨j, G, c1, K', rfl, hj, rfl, hO, hOL, hPL, hM, hBX, hgr, hG, hBw⟩ := hrel
    have hsub := (lostP_sub cs L j).length_le
    by_cases hlt : j < L.length
    · obtain ⟨x, hx⟩ : ∃ x, x = L[j] := ⟨_, rfl⟩
      have hxm : x ∈ L := by rw [hx]; exact List.getElem_mem hlt
      have hsc := lostP_succ cs L j hlt
      rw [← hx] at hsc
      have hopt := (HML.out x.2).1 (List.mem_map.2 ⟨x, hxm, rfl⟩)
      have hq2 := hp_opt HP.out hopt
      obtain ⟨⟨Aj, cj, ex⟩, hox⟩ := hPL.1 x hxm
      obtain ⟨g', hg', -, -, -, hc, -⟩ := hOL.at (by rw [List.length_map]; omega)
      injection hg' with hg'
      injection hg' with hg' _
      subst hg'
      have hcj := hc j x.1 (by rw [List.getElem?_map, List.getElem?_eq_getElem hlt, ← hx]; rfl)
      rw [ex] at hcj hox
      have hbx : ∀ a, Aj = some a → a.block ≠ b := fun a ha => by
        have := HPB.out x hxm a.block (by rw [ex, ha]; rfl)
        omega
      have hcall := valI cs HG.out Ac cc B0 b hk0 x.2 wr Aj cj K' hq2.1 hM (Rd.grown (lo := 0) HCODE.out Lo.zero hgr (by omega) fun k hk => by injection hk with hk; omega) hox.rd hbx
      obtain ⟨u, hu⟩ : ∃ u, u = mz cs x.2 := ⟨_, rfl⟩
      rw [← hu] at hcall hsc
      have HCALL := Lib.hid hcall; have HSC := Lib.hid hsc; have HO := Lib.hid hO; have HOL := Lib.hid hOL; have HPL := Lib.hid hPL; have HGR := Lib.hid hgr; have HEX := Lib.hid ex
      have q0 : wr.cell? ⟨w.heap.size, 0, none⟩ = some (.slice Ac cs.length cc) := hBX.cell 0
      have q1 : wr.cell? ⟨w.heap.size, 1, none⟩ = some (.map (some b)) := hBX.cell 1
      have HBX := Lib.hid hBX
      have hzw := hgr.size
      have hGl := (hO.lt G rfl).1
      clear hcall hsc hO hOL hPL hgr hM hBX hopt hq2 hu hc hox hbx hx ex
      go_wp2_with fail
      ((with_reducible refine (HCALL.out).mono ?_); rintro e w3 ⟨rfl, ⟨K3, hM3⟩, hg3⟩)
      have hz3 := hg3.size
      have HO3 := Lib.hid (HO.out.grown hg3 (.inr (own_ne (by omega))))
      have HOL3 := Lib.hid (HOL.out.grown hg3 (.inr (own_ne (by omega))))
      have HPL3 := Lib.hid (HPL.out.grownX hg3 fun y hy k hk e => by injection e with e; have := HPB.out y hy k hk; omega)
      have HBX3 := Lib.hid (HBX.out.grown hg3 (by simp; omega))
      have HM3 := Lib.hid hM3; have HG3 := Lib.hid (HGR.out.trans hg3)
      clear hM3 hg3 q0 q1
      by_cases hu0 : u = 0
      · have ht : ((u : Int) == 0) = true := by simp [hu0]
        rw [if_pos hu0] at HSC
        clear hu0
        go_wp2_with (at_builtin; refine wpList_append_at rfl _ _ 32 22 (.slice none 0 0) 24 rfl Try.underlying32 infoRow rfl (by omega) (w.heap.size + 1) (.slice (some ⟨G, 0, none⟩) (lostP cs L j).length c1) ((lostP cs L j).map (·.1)) rfl (HO3.out.below (bel1 _ _)) (w3.heap.size + 1) (some ⟨w3.heap.size, 0, none⟩) 1 1 [.slice Aj x.2.length cj] rfl rfl (Rd.of_blk (Blk.new _ _ _) (Nat.lt_succ_self _)) (fun u hu => by simp at hu; subst hu; rfl) (by simp; omega) (by simp; omega) ?_; intro A5 c5 w5 ho5 hb5 hg5 hp5)
        have hz5 := hg5.size
        have hza : (w3.alloc (.cells #[.slice Aj x.2.length cj] 22)).heap.size = w3.heap.size + 1 := by simp
        have el : ((lostP cs L j).map (·.1)).length + [Value.slice Aj x.2.length cj].length = (lostP cs L (j + 1)).length := by rw [HSC.out]; simp
        have ec : (lostP cs L j).map (·.1) ++ [Value.slice Aj x.2.length cj] = (lostP cs L (j + 1)).map (·.1) := by rw [HSC.out, List.map_append, ← HEX.out]; rfl
        rw [ec, el] at ho5
        rw [el] at hp5
        have HEL := Lib.hid (show (lostP cs L (j + 1)).length = (lostP cs L j).length + 1 by rw [HSC.out]; simp)
        obtain ⟨G5, hG5, -⟩ := ho5.at (by rw [List.length_map, HSC.out, List.length_append, List.length_singleton]; omega)
        subst hG5
        have HO5 := Lib.hid ho5; have HG5 := Lib.hid hg5; have HP5 := Lib.hid hp5
        clear ho5 hb5 hg5 hp5 el ec
        go_roundw
        case rel =>
          have hgA : w3.grownBy w5 (some G) := (belowG (bel1 w3 (.cells #[.slice Aj x.2.length cj] 22)) _).trans HG5.out
          refine ⟨j + 1, G5, c5, K3, by go_num, by omega, by rw [HEL.out], HO5.out, HOL3.out.grown hgA (.inr (own_ne (by omega))), HPL3.out.grownX hgA (fun y hy k hk e => by injection e with e; have := HPB.out y hy k hk; omega), HM3.out.kept hgA (by simp; omega), HBX3.out.grown hgA (by simp; omega), grown_new HG3.out hgA (fun k hk => by injection hk with hk; omega), ?_, by omega⟩
          rcases HP5.out with e | e
          · have e : G5 = G := by injection e
            omega
          · have e : G5 = (w3.alloc (.cells #[.slice Aj x.2.length cj] 22)).heap.size := by injection e
            omega
        case measure => simp [intOf]; omega
      · have ht : ((u : Int) == 0) = false := by simp; omega
        rw [if_neg hu0] at HSC
        clear hu0
        go_wp2
        go_roundw
        case rel => exact ⟨j + 1, G, c1, K3, by go_num, by omega, by rw [HSC.out], by rw [HSC.out]; exact HO3.out, HOL3.out, HPL3.out, HM3.out, HBX3.out, HG3.out, hG, by omega⟩
        case measure => simp [intOf]; omega
    · obtain rfl : j = L.length := by omega
      have hHL : HL wr w.heap.size (.slice (some ⟨G, 0, none⟩) (lostP cs L L.length).length c1) 200000 (fun q => optP cs q0 q ∧ mz cs q = 0) := by
        refine ⟨lostP cs L L.length, G, c1, rfl, hO.le (by omega), ?_, fun y hy e => ?_, HSL.out.sublist ((lostP_sub cs L L.length).map _), by omega, fun q => ?_⟩
        · have := hPL.sub ⟨L, List.Perm.refl _, lostP_sub cs L L.length⟩
          exact ⟨fun y hy => ⟨(this.1 y hy).1, (this.1 y hy).2.le (by omega)⟩, this.2⟩
        · have := HPB.out y ((lostP_sub cs L L.length).subset hy) G e
          omega
        · rw [lostP_mem, HML.out]
      have HHL := Lib.hid hHL
      clear hHL hO hOL hPL hBX
      go_wp2
      go_ret
      exact ⟨⟨_, rfl, HHL.out⟩, ⟨K', hM⟩, hgr⟩
end Go.Proofs.Ytdckgplmkigjcaa
