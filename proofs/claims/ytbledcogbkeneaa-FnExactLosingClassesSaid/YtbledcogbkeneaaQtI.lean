/- The classes of all box positions: the program's, by contract. Conditions: none. -/
import Derived.Test.YtbledcogbkeneaaCls
import Derived.Test.YtbledcogbkeneaaIdx
namespace Go.Proofs.Ytbledcogbkeneaa
open Go.RowKit Go.Maps
set_option linter.unusedVariables false

/-- Rows of elements of two types lie in two blocks. -/
theorem Own.neT {w : World} {b b' : Nat} {E E' : TypeId} {v v' : Value} {cs cs' : List Value} (h : Own w b E v cs) (h' : Own w b' E' v' cs') (hE : E ≠ E') : v.ownBlock = none ∨ v.ownBlock ≠ v'.ownBlock := by
  rcases h.2 with ⟨hv, _⟩ | ⟨g, cap, cur, hv, _, hg, _⟩
  · left; rw [hv]; rfl
  · rcases h'.2 with ⟨hv', _⟩ | ⟨g', cap', cur', hv', _, hg', _⟩
    · right; rw [hv, hv']; exact fun e => by cases e
    · right
      rw [hv, hv']
      intro e
      have e : g = g' := by injection e
      subst e
      rw [hg] at hg'
      injection hg' with hg'
      injection hg' with _ h2 _
      exact hE h2
/-- The cells are new slices that hold the signs of the first j positions. -/
def SnR (w : World) (b0 : Nat) (cs : List Int) (L : List (List Int)) (j : Nat) (ds : List Value) : Prop :=
  ds.length = j ∧ ∀ i, i < j → ∃ Ai ci, ds[i]? = some (.slice Ai L.length ci) ∧ Own w b0 4 (.slice Ai L.length ci) (bls (sg cs L (gl L i)))
theorem SnR.keep {w w' : World} {b0 : Nat} {cs : List Int} {L : List (List Int)} {j : Nat} {ds : List Value} (h : SnR w b0 cs L j ds) (hk : ∀ v xs, Own w b0 4 v xs → Own w' b0 4 v xs) : SnR w' b0 cs L j ds :=
  ⟨h.1, fun i hi => by obtain ⟨Ai, ci, h1, h2⟩ := h.2 i hi; exact ⟨Ai, ci, h1, hk _ _ h2⟩⟩
theorem SnR.below {w w' : World} {b0 : Nat} {cs : List Int} {L : List (List Int)} {j : Nat} {ds : List Value} (h : SnR w b0 cs L j ds) (hb : Below w.heap.size w w') : SnR w' b0 cs L j ds := h.keep fun _ _ k => k.below hb
theorem SnR.grownLb {w w' : World} {b0 b : Nat} {cs : List Int} {L : List (List Int)} {j : Nat} {ds : List Value} (h : SnR w b0 cs L j ds) (hg : w.grownBy w' (some b)) (hb : b < b0) : SnR w' b0 cs L j ds := h.keep fun _ _ k => k.grownLb hg hb
theorem SnR.grownT {w w' : World} {b0 b1 : Nat} {E : TypeId} {v : Value} {xs : List Value} {cs : List Int} {L : List (List Int)} {j : Nat} {ds : List Value} (h : SnR w b0 cs L j ds) (hv : Own w b1 E v xs) (hE : 4 ≠ E) (hg : w.grownBy w' v.ownBlock) : SnR w' b0 cs L j ds :=
  h.keep fun _ _ k => k.grown hg (k.neT hv hE)
theorem SnR.snoc {w : World} {b0 : Nat} {cs : List Int} {L : List (List Int)} {j : Nat} {ds : List Value} {A : Option Addr} {c : Nat} (h : SnR w b0 cs L j ds) (hs : Own w b0 4 (.slice A L.length c) (bls (sg cs L (gl L j)))) : SnR w b0 cs L (j + 1) (ds ++ [.slice A L.length c]) := by
  refine ⟨by rw [List.length_append, List.length_singleton, h.1], fun i hi => ?_⟩
  by_cases hl : i < j
  · obtain ⟨Ai, ci, h1, h2⟩ := h.2 i hl
    exact ⟨Ai, ci, by rw [List.getElem?_append_left (by rw [h.1]; exact hl)]; exact h1, h2⟩
  · obtain rfl : i = j := by omega
    exact ⟨A, c, by rw [List.getElem?_append_right (by rw [h.1]; omega), h.1, Nat.sub_self]; rfl, hs⟩
/-- The signs of the first j positions. -/
noncomputable def sgs (cs : List Int) (L : List (List Int)) (j : Nat) : List (List Bool) := (L.take j).map fun p => sg cs L p
theorem sgs_len {cs : List Int} {L : List (List Int)} {j : Nat} (h : j ≤ L.length) : (sgs cs L j).length = j := by unfold sgs; rw [List.length_map, List.length_take]; omega
theorem bl_sgs {cs : List Int} {L : List (List Int)} {j i : Nat} (h : j ≤ L.length) (hi : i < j) : bl (sgs cs L j) i = sg cs L (gl L i) := by
  rw [bl_lt (by rw [sgs_len h]; exact hi)]
  unfold sgs
  rw [List.getElem_map, List.getElem_take, gl_lt (by omega)]
theorem SnR.bl {w : World} {b0 : Nat} {cs : List Int} {L : List (List Int)} {j : Nat} {ds : List Value} (h : SnR w b0 cs L j ds) (hj : j ≤ L.length) : BlAt w w.heap.size ds (sgs cs L j) := by
  refine ⟨by rw [sgs_len hj]; exact h.1, fun i hi => ?_⟩
  rw [sgs_len hj] at hi
  obtain ⟨Ai, ci, h1, h2⟩ := h.2 i hi
  rw [bl_sgs hj hi, sg_len]
  exact ⟨Ai, ci, h1, Own.rd h2⟩
theorem SnR.one {w : World} {b0 : Nat} {cs : List Int} {L : List (List Int)} {j : Nat} {ds : List Value} (h : SnR w b0 cs L j ds) : ∀ u ∈ ds, u.oneCell' = true := by
  intro u hu
  obtain ⟨i, hi, rfl⟩ := List.getElem_of_mem hu
  obtain ⟨Ai, ci, h1, _⟩ := h.2 i (by rw [← h.1]; exact hi)
  rw [List.getElem?_eq_getElem hi] at h1
  injection h1 with h1
  rw [h1]; rfl
theorem ixB_quo {cs : List Int} {L : List (List Int)} {j : Nat} {n : Int} (h : j < L.length) (hi : ixB (sg cs L (gl L j)) (sgs cs L (j + 1)) n) : n = gi (quo cs L) j := by
  rw [quo_gi cs L j h]
  have hl : (sgs cs L (j + 1)).length = j + 1 := sgs_len (by omega)
  rcases hi with ⟨_, hn⟩ | ⟨i, rfl, h1, h2, h3⟩
  · have := hn j (by omega)
    rw [bl_sgs (by omega) (by omega)] at this
    exact absurd rfl this
  · rw [hl] at h1
    rw [bl_sgs (by omega) h1] at h2
    refine (cl_at (by omega) h2.symm fun k hk he => ?_).symm
    have := h3 k hk
    rw [bl_sgs (by omega) (by omega)] at this
    exact this he.symm

theorem drew_alloc_lt (V : World) (o : Obj) : V.heap.size < (V.alloc o).drew.heap.size := by show _ < (V.heap.push _).size; simp
set_option maxRecDepth 100000 in
set_option maxHeartbeats 3200000 in
theorem quotientI_any (cs : List Int) (hg : goodCode cs) (Ac : Option Addr) (cc B0 b : Nat) (hk0 : B0 ≤ b) (size many : Nat) (hs : size ≤ 6) (hm : many ≤ 6) (hsm : size * many ≤ 6) (w : World) (K : List (List Int))
    (hM : MapM w b cs K) (hcode : RdI w B0 Ac cc cs) :
    Calls Try.prog 44 #[.agg #[.slice Ac cs.length cc, .map (some b)], .agg #[.int .i64 size, .int .i64 many]] w fun e w' =>
      (∃ A3 c3, e = .returned (.slice A3 (allTo size (many + 1)).length c3) ∧ Own w' w.heap.size 3 (.slice A3 (allTo size (many + 1)).length c3) (ints (quo cs (allTo size (many + 1))))) ∧ (∃ K', MapM w' b cs K') ∧ w.grownBy w' (some b) := by
  have hbl := hM.lt
  have HCODE := Lib.hid hcode
  have hLle := allTo_le size hs (many + 1) (by omega)
  have HP := Lib.hid fun (x : List Int) (hx : ∀ y ∈ x, 0 ≤ y) (hxs : sm x + (size * many : Nat) ≤ 20) (hxl : x.length ≤ 1000) (w : World) (A : Option Addr) (c : Nat) (K : List (List Int)) (hM : MapM w b cs K) (hcode : RdI w B0 Ac cc cs) (hr : RdI w w.heap.size A c x) (hxb : ∀ a, A = some a → a.block ≠ b) => signsI_any cs hg Ac cc B0 b hk0 size many hs hm hsm x w A c K hx hxs hxl hM hcode hr hxb
  have HPOS := Lib.hid fun W => positions_any size many hs hm W
  have HROW := Lib.hid fun (L : List (List Int)) (hL : L = allTo size (many + 1)) => allTo_pos hL hsm
  obtain ⟨L, hL⟩ : ∃ L, L = allTo size (many + 1) := ⟨_, rfl⟩
  have HAT := Lib.hid (HROW.out L hL)
  rw [← hL] at HP hLle HPOS ⊢
  clear hL HROW hg
  obtain ⟨W1, hW1⟩ : ∃ W1, W1 = (w.alloc (.cells #[.slice Ac cs.length cc, .map (some b)] 52)).alloc (.cells #[.int .i64 size, .int .i64 many] 28) := ⟨_, rfl⟩
  obtain ⟨W, hW⟩ : ∃ W, W = (W1.alloc (.cells #[] 39)).alloc (.cells #[] 3) := ⟨_, rfl⟩
  have hz0 : (w.alloc (.cells #[.slice Ac cs.length cc, .map (some b)] 52)).heap.size = w.heap.size + 1 := by simp
  have hz1 : W1.heap.size = w.heap.size + 2 := by rw [hW1]; simp
  have hz2 : (W1.alloc (.cells #[] 39)).heap.size = w.heap.size + 3 := by simp [hz1]
  have hbW1 : Below w.heap.size w W1 := by rw [hW1]; exact bel2 _ _ _
  have hbW2 : Below W1.heap.size W1 W := by rw [hW]; exact bel2 _ _ _
  have hbW := gtr hbW1 hbW2
  have hBX : Blk W w.heap.size 52 #[.slice Ac cs.length cc, .map (some b)] := Blk.below (by rw [hW1]; exact (Blk.new _ _ _).alloc _) hbW2 (by omega)
  have hBY : Blk W (w.heap.size + 1) 28 #[.int .i64 size, .int .i64 many] := Blk.below (by rw [hW1, ← hz0]; exact Blk.new _ _ _) hbW2 (by omega)
  have hOS : Own W (w.heap.size + 2) 39 (.slice (some ⟨w.heap.size + 2, 0, none⟩) 0 0) ([] : List Value) := by
    have := (Own.empty W1 39 39 (w.heap.size + 2) (by omega)).below (bel1 _ (.cells #[] 3))
    rw [hz1] at this
    rw [hW]; exact this
  have hOO : Own W (w.heap.size + 2) 3 (.slice (some ⟨w.heap.size + 3, 0, none⟩) 0 0) (ints ((quo cs L).take 0)) := by
    have := Own.empty (W1.alloc (.cells #[] 39)) 3 3 (w.heap.size + 2) (by omega)
    rw [hz2] at this
    rw [hW]; exact this
  have hzW : W.heap.size = w.heap.size + 4 := by rw [hW]; simp [hz1]
  have hMW := hM.kept (belowG hbW none) (by simp)
  have hgr0 := belowG hbW (some b)
  clear hM hcode hz0 hz1 hz2 hbW1 hbW2 hbW
  go_enter Try.func44, Try.ntmps44
  go_wp2_with fail
  rw [← hW1, ← hW]
  clear hW hW1
  ((with_reducible refine (HPOS.out W).mono ?_); rintro e w2 ⟨A2, c2, rfl, hF2, hb2⟩)
  have hz2 := hb2.size
  have hR2 := FrR.rd hF2
  have hM2 := hMW.kept (belowG hb2 none) (by simp)
  have hOS2 := hOS.below hb2
  have hOO2 := hOO.below hb2
  have hBX2 := hBX.below hb2 (by omega)
  have hBY2 := hBY.below hb2 (by omega)
  have hgr2 := hgr0.trans (belowG hb2 (some b))
  obtain ⟨lo2, hlo2⟩ : ∃ lo2, lo2 = W.heap.size := ⟨_, rfl⟩
  obtain ⟨B2, hB2⟩ : ∃ B2, B2 = w2.heap.size := ⟨_, rfl⟩
  rw [← hlo2, ← hB2] at hR2
  have hl0 : lo2 = w.heap.size + 4 := by omega
  have hBw : B2 ≤ w2.heap.size := by omega
  have hSN2 : SnR w2 (w.heap.size + 2) cs L 0 [] := ⟨rfl, fun i hi => absurd hi (by omega)⟩
  obtain ⟨gS, hgS⟩ : ∃ gS, gS = w.heap.size + 2 := ⟨_, rfl⟩
  obtain ⟨gO, hgO⟩ : ∃ gO, gO = w.heap.size + 2 + 1 := ⟨_, rfl⟩
  have hbS : ∀ k, (Value.slice (some ⟨gS, 0, none⟩) 0 0).ownBlock = some k → k < lo2 ∨ B2 ≤ k := fun k hk => by
    have hk : gS = k := by injection hk
    left; omega
  have hbO : ∀ k, (Value.slice (some ⟨gO, 0, none⟩) 0 0).ownBlock = some k → k < lo2 ∨ B2 ≤ k := fun k hk => by
    have hk : gO = k := by injection hk
    left; omega
  obtain ⟨bS, hbSe⟩ : ∃ bS, bS = w.heap.size + 2 := ⟨_, rfl⟩
  have hOS3 : Own w2 bS 39 (.slice (some ⟨gS, 0, none⟩) 0 0) ([] : List Value) := by rw [hgS, hbSe]; exact hOS2
  have hOO3 : Own w2 bS 3 (.slice (some ⟨gO, 0, none⟩) 0 0) (ints ((quo cs L).take 0)) := by rw [hgO, hbSe]; exact hOO2
  have hSN3 : SnR w2 bS cs L 0 [] := by rw [hbSe]; exact hSN2
  rw [← hgO, ← hgS]
  have hbSw : w.heap.size + 2 ≤ bS := by omega
  have hbSl : bS ≤ lo2 := by omega
  clear hF2 hb2 hlo2 hB2 hz2 hzW hOS hOO hBX hBY hMW hgr0 hOS2 hOO2 hSN2 hgS hgO hbSe
  go_wp2
  go_loopw [5, 6, 15] (fun v5 v6 s wi => ∃ (j : Nat) (AS : Option Addr) (cS : Nat) (AO : Option Addr) (cO : Nat) (ds : List Value) (K' : List (List Int)), s = .int .i64 j ∧ j ≤ L.length ∧ v5 = .slice AS j cS ∧ v6 = .slice AO j cO ∧ AS ≠ none ∧ Own wi bS 39 (.slice AS j cS) ds ∧ SnR wi bS cs L j ds ∧ Own wi bS 3 (.slice AO j cO) (ints ((quo cs L).take j)) ∧ (∀ k, (Value.slice AS j cS).ownBlock = some k → k < lo2 ∨ B2 ≤ k) ∧ (∀ k, (Value.slice AO j cO).ownBlock = some k → k < lo2 ∨ B2 ≤ k) ∧ RdR wi lo2 B2 A2 c2 L ∧ MapM wi b cs K' ∧ Blk wi w.heap.size 52 #[.slice Ac cs.length cc, .map (some b)] ∧ Blk wi (w.heap.size + 1) 28 #[.int .i64 size, .int .i64 many] ∧ w.grownBy wi (some b) ∧ B2 ≤ wi.heap.size) (fun _ _ s _ => L.length - (intOf s).toNat)
  case atStart => exact ⟨0, some ⟨gS, 0, none⟩, 0, some ⟨gO, 0, none⟩, 0, [], K, rfl, by omega, rfl, rfl, by simp, hOS3, hSN3, hOO3, hbS, hbO, hR2, hM2, hBX2, hBY2, hgr2, hBw⟩
  case round =>
    clear hOS3 hSN3 hOO3 hbS hbO hR2 hM2 hBX2 hBY2 hgr2 hBw
    obtain ⟨j, AS, cS, AO, cO, ds, K', rfl, hj, rfl, rfl, hAS, hOS, hSN, hOO, hbS, hbO, hRR, hM, hBX, hBY, hgr, hBw⟩ := hrel
    by_cases hlt : j < L.length
    · have hLw := hgr.size
      have hdl : ds.length = j := hSN.1
      obtain ⟨bL, oL, rfl, hloL, hbL, hcL⟩ := hRR.atLo (j := j) hlt
      obtain ⟨Aj, cj, hcj, hrj, hloj⟩ := hcL j hlt
      have hbj : ∀ a, Aj = some a → a.block ≠ b := fun a ha => by have := hloj a ha; omega
      obtain ⟨hp0, hps, hpl⟩ := (HAT.out j hlt).resolve_right (by omega)
      have HCJ := Lib.hid (HP.out (gl L j) hp0 hps hpl wr Aj cj K' hM (Rd.grown (lo := 0) HCODE.out Lo.zero hgr (by omega) fun k hk => by injection hk with hk; omega) (hrj.more hBw) hbj)
      have q0 : wr.cell? ⟨w.heap.size, 0, none⟩ = some (.slice Ac cs.length cc) := hBX.cell 0
      have q1 : wr.cell? ⟨w.heap.size, 1, none⟩ = some (.map (some b)) := hBX.cell 1
      have p0 : wr.cell? ⟨w.heap.size + 1, 0, none⟩ = some (.int .i64 (size : Int)) := hBY.cell 0
      have p1 : wr.cell? ⟨w.heap.size + 1, 1, none⟩ = some (.int .i64 (many : Int)) := hBY.cell 1
      have hneS : ∀ k, (Value.slice AS j cS).ownBlock = some k → bS ≤ k ∧ k < wr.heap.size := fun k hk => hOS.lt k hk
      have hneO : ∀ k, (Value.slice AO j cO).ownBlock = some k → bS ≤ k ∧ k < wr.heap.size := fun k hk => hOO.lt k hk
      have HOS := Lib.hid hOS; have HSN := Lib.hid hSN; have HOO := Lib.hid hOO; have HBS := Lib.hid hbS; have HBO := Lib.hid hbO
      have HRR := Lib.hid hRR; have HBX := Lib.hid hBX; have HBY := Lib.hid hBY; have HGR := Lib.hid hgr; have HNS := Lib.hid hneS; have HNO := Lib.hid hneO; have HDL := Lib.hid hdl; have HAS := Lib.hid hAS
      have hgl9 := (hBY.lt)
      clear hOS hSN hOO hbS hbO hRR hM hBX hBY hgr hcL hrj hp0 hps hpl hloj hbj hneS hneO hdl hAS
      go_wp2_with fail
      ((with_reducible refine (HCJ.out).mono ?_); rintro e w3 ⟨⟨A3, c3, rfl, ho3⟩, ⟨K3, hM3⟩, hg3⟩)
      have hz3 := hg3.size
      have hb3 : bS ≤ wr.heap.size := by omega
      have HO3 := Lib.hid (ho3.le hb3)
      have HB3 := Lib.hid fun k (hk : (Value.slice A3 L.length c3).ownBlock = some k) => ho3.lt k hk
      have hbb : b < bS := by omega
      have hOS3 := HOS.out.grownLb hg3 hbb
      have hSN3 := HSN.out.grownLb hg3 hbb
      have hOO3 := HOO.out.grownLb hg3 hbb
      have hRR3 := HRR.out.grown hg3 hBw (fun k hk => by injection hk with hk; omega)
      have hBX3 := HBX.out.grown hg3 (by simp; omega)
      have hBY3 := HBY.out.grown hg3 (by simp; omega)
      have hgr3 := HGR.out.trans hg3
      clear HOS HSN HOO HRR HBX HBY HGR HCJ q0 q1 p0 p1 hg3 ho3
      obtain ⟨V, hV⟩ : ∃ V, V = w3.alloc (.cells #[.slice A3 L.length c3] 39) := ⟨_, rfl⟩
      obtain ⟨g9, hg9⟩ : ∃ g9, g9 = w3.heap.size := ⟨_, rfl⟩
      have hbV : Below w3.heap.size w3 V := by rw [hV]; exact bel1 _ _
      have hzV : V.heap.size = w3.heap.size + 1 := by rw [hV]; simp
      have hB9 : Blk V g9 39 #[.slice A3 L.length c3] := by rw [hV, hg9]; exact Blk.new _ _ _
      have hOSV := hOS3.below hbV
      have hSNV := hSN3.below hbV
      have hOOV := hOO3.below hbV
      have hRRV := hRR3.below hbV (by omega)
      have hMV := hM3.kept (belowG hbV none) (by simp)
      have hBXV := hBX3.below hbV (by omega)
      have hBYV := hBY3.below hbV (by omega)
      have hgrV := hgr3.trans (belowG hbV (some b))
      have hO3V := HO3.out.below hbV
      have hs9 : V.cell? ⟨g9, 0, none⟩ = some (.slice A3 L.length c3) := hB9.cell 0
      obtain ⟨sgn, hsgn⟩ : ∃ sgn, sgn = sg cs L (gl L j) := ⟨_, rfl⟩
      obtain ⟨u, hu⟩ : ∃ u, u = gi (quo cs L) j := ⟨_, rfl⟩
      have HTK := Lib.hid (show (quo cs L).take (j + 1) = (quo cs L).take j ++ [u] by rw [hu]; exact take_succ_gi _ _ (by rw [quo_len]; exact hlt))
      have hsl : sgn.length = L.length := by rw [hsgn, sg_len]
      have HNW := Lib.hid fun (W' : World) (h1 : SnR W' bS cs L j ds) (h2 : Own W' bS 4 (.slice A3 L.length c3) (bls sgn)) => SnR.snoc h1 (A := A3) (c := c3) (by rw [← hsgn]; exact h2)
      have HIX := Lib.hid fun (W' : World) (A6 : Option Addr) (c6 : Nat) (hc : W'.cell? ⟨g9, 0, none⟩ = some (.slice A3 L.length c3)) (h9 : g9 < W'.heap.size) (hs : RdB W' W'.heap.size A3 c3 sgn) (hd : Rd W' W'.heap.size A6 c6 (ds ++ [.slice A3 L.length c3])) (hr : BlAt W' W'.heap.size (ds ++ [.slice A3 L.length c3]) (sgs cs L (j + 1))) => by
        have h := index_any A3 A6 c3 c6 g9 sgn (sgs cs L (j + 1)) _ W' W'.heap.size (Nat.le_refl _) h9 (by rw [hsl]; exact hc) hs hd hr
        rw [sgs_len (by omega : j + 1 ≤ L.length)] at h
        exact Calls.mono h (R' := fun e w' => e = .returned (.int .i64 u) ∧ Below W'.heap.size W' w') fun e w' ⟨⟨n, he, hi⟩, hb⟩ => ⟨by have hn := ixB_quo (cs := cs) (n := n) hlt (by rw [← hsgn]; exact hi); rw [he, hn, hu], hb⟩
      have HCLO := Lib.hid fun (W' : World) (hW' : Below V.heap.size V W') => by
        have h := cloneB_any AS cS ds W' V.heap.size hW'.size (by rw [HDL.out]; omega) HAS.out ((Own.rd hOSV).below hW' (Nat.le_refl _)) hSNV.one
        rw [HDL.out] at h
        exact Calls.mono h (R' := fun e w' => ∃ A' c', e = .returned (.slice A' j c') ∧ Own w' V.heap.size 39 (.slice A' j c') ds ∧ Below V.heap.size V w' ∧ Below W'.heap.size W' w') fun e w' ⟨A', c', k1, k2, k3⟩ => ⟨A', c', k1, k2.le hW'.size, gtr hW' k3, k3⟩
      rw [← hsgn] at hO3V
      have hsnV : SnR V bS cs L j ds := hSNV
      have hzr : wr.heap.size ≤ V.heap.size := by omega
      have hg9V := hB9.lt
      have hwg9 : wr.heap.size ≤ g9 := by omega
      have HOSV := Lib.hid hOSV; have HSNV := Lib.hid hSNV; have HOOV := Lib.hid hOOV; have HRRV := Lib.hid hRRV; have HMV := Lib.hid hMV; have HBXV := Lib.hid hBXV; have HBYV := Lib.hid hBYV; have HGRV := Lib.hid hgrV; have HO3V := Lib.hid hO3V; have HB9 := Lib.hid hB9
      have HS9 := Lib.hid fun W' (hW' : Below V.heap.size V W') => (hB9.below hW' hB9.lt).cell 0
      have HSZ := Lib.hid (show (ints ((quo cs L).take j)).length = j by rw [ints_len, List.length_take, quo_len]; omega)
      clear hOS3 hSN3 hOO3 hRR3 hM3 hBX3 hBY3 hgr3 hbV hOSV hSNV hOOV hRRV hMV hBXV hBYV hgrV hO3V hB9 hsgn hu hsnV HO3
      go_wp2_with fail
      rw [← hV, ← hg9]
      clear hV hg9 hzV
      refine wp_region_noPanic ?_
      refine wp_region_held_drew (S := fun w' => w'.cell? ⟨g9, 0, none⟩ = some (.slice A3 L.length c3)) (by kernel_rfl) (by exact hs9) (fun hHeld => ?_)
      refine wpAnyH_take (i := 0) (oi := ⟨some 23, _, _, _, _, _⟩) (v := ?vta0) rfl (by kernel_rfl) (by kernel_rfl) (by kernel_rfl) (fun _ _ _ h => h) (Or.inl ⟨by kernel_rfl, ?hya0⟩) (by assumption) ?_
      case hya0 => (intro wh hSw; (try dsimp only at hSw); go_simp; try with_reducible rfl)
      simp only [Act.put, List.setIfInBounds_toArray, List.set_cons_zero, List.set_cons_succ]
      refine wpAnyH_take (i := 1) (oi := ⟨some 24, _, _, _, _, _⟩) (v := ?vta1) rfl (by kernel_rfl) (by kernel_rfl) (by kernel_rfl) (fun _ _ _ h => h) (Or.inl ⟨by kernel_rfl, ?hya1⟩) (by assumption) ?_
      case hya1 => (intro wh hSw; (try dsimp only at hSw); go_simp; try with_reducible rfl)
      simp only [Act.put, List.setIfInBounds_toArray, List.set_cons_zero, List.set_cons_succ]
      refine wpAnyH_take (i := 3) (oi := ⟨some 26, _, _, _, _, _⟩) (v := ?vta3) rfl (by kernel_rfl) (by kernel_rfl) (by kernel_rfl) (fun _ _ _ h => h) (Or.inl ⟨by kernel_rfl, ?hya3⟩) (by assumption) ?_
      case hya3 => (intro wh hSw; (try dsimp only at hSw); go_simp; try with_reducible rfl)
      simp only [Act.put, List.setIfInBounds_toArray, List.set_cons_zero, List.set_cons_succ]
      refine wpAnyH_take (i := 6) (oi := ⟨some 29, _, _, _, _, _⟩) (v := ?vta6) rfl (by kernel_rfl) (by kernel_rfl) (by kernel_rfl) (fun _ _ _ h => h) (Or.inl ⟨by kernel_rfl, ?hya6⟩) (by assumption) ?_
      case hya6 => (intro wh hSw; (try dsimp only at hSw); go_simp; try with_reducible rfl)
      simp only [Act.put, List.setIfInBounds_toArray, List.set_cons_zero, List.set_cons_succ]
      refine wpAnyH_ready (rs := [2, 4]) (by kernel_rfl) (by simp) ?_
      refine AllReadyH.cons (o := _) rfl (fun K hK => ?_) (AllReadyH.cons (o := _) rfl (fun K hK => ?_) AllReadyH.nil)
      · go_simp
        (go_at_call 57; refine (HCLO.out _ gdrew).mono ?_; rintro e w5 ⟨A5, c5, rfl, o5, g5, hb5⟩)
        have s5 : w5.cell? ⟨g9, 0, none⟩ = some (.slice A3 L.length c3) := HS9.out _ g5
        dsimp only
        refine hK.out _ _ s5 (fun _ => ?_)
        clear hK K
        try simp only [Act.put]
        refine wpAnyH_ready (rs := [4]) (by kernel_rfl) (by simp) ?_
        refine AllReadyH.cons (o := _) rfl (fun K hK => ?_) AllReadyH.nil
        go_simp
        refine hK.out _ _ (HS9.out _ (g5.trans ((bel1 _ _).mono g5.size))) (fun _ => ?_)
        clear hK K
        try simp only [Act.put]
        refine wpAnyH_ready (rs := [5]) (by kernel_rfl) (by simp) ?_
        refine AllReadyH.cons (o := _) rfl (fun K hK => ?_) AllReadyH.nil
        refine step_append_at (by rfl) (.tmp 25) (.tmp 27) 71 39 (.slice none 0 0) 24 (by rfl) Try.underlying71 infoRB rfl (by omega) V.heap.size (.slice A5 j c5) ds (by rfl) (o5.below (bel1 _ _)) _ _ _ _ [.slice A3 L.length c3] (by rfl) rfl (Rd.of_blk (Blk.new_at _ _ _ (by simp)) (Nat.lt_succ_self _)) (fun u hu => by simp at hu; subst hu; rfl) (by rw [HDL.out]; simp; omega) (by have := g5.size; first | omega | (simp; omega)) ?_
        intro A6 c6 w6 ho6 hb6 hg6 hp6
        rw [HDL.out, List.length_singleton] at ho6 ⊢
        have g6 : Below V.heap.size V w6 := (g5.trans ((bel1 _ _).mono g5.size)).trans hb6
        have s6 : w6.cell? ⟨g9, 0, none⟩ = some (.slice A3 L.length c3) := HS9.out _ g6
        have r6 : Rd w6 w6.heap.size A6 c6 (ds ++ [.slice A3 L.length c3]) := Own.rd ho6
        have t6 : RdB w6 w6.heap.size A3 c3 sgn := Own.rd (HO3V.out.below g6)
        have b6 := (HNW.out w6 (HSNV.out.below g6) (HO3V.out.below g6)).bl (show j + 1 ≤ L.length by omega)
        have z6 := g6.size
        refine hK.out _ _ s6 (fun _ => ?_)
        clear hK K
        try simp only [Act.put]
        refine wpAnyH_ready (rs := [7]) (by kernel_rfl) (by simp) ?_
        refine AllReadyH.cons (o := _) rfl (fun K hK => ?_) AllReadyH.nil
        go_simp
        (go_at_call 56; refine (HIX.out w6 A6 c6 s6 (by omega) t6 r6 b6).mono ?_; rintro e w7 ⟨rfl, hb7⟩)
        dsimp only
        have g7 := gtr g6 hb7
        have s7 : w7.cell? ⟨g9, 0, none⟩ = some (.slice A3 L.length c3) := HS9.out _ g7
        refine hK.out _ _ s7 (fun _ => ?_)
        clear hK K
        try simp only [Act.put]
        refine wpAnyH_ready (rs := [8]) (by kernel_rfl) (by simp) ?_
        refine AllReadyH.cons (o := _) rfl (fun K hK => ?_) AllReadyH.nil
        go_simp
        refine hK.out _ _ (HS9.out _ (g7.trans ((bel1 _ _).mono g7.size))) (fun _ => ?_)
        clear hK K
        try simp only [Act.put]
        have o7 := (HOOV.out.below g7).below (bel1 w7 (.cells #[.int .i64 u] 3))
        refine wpAnyH_ready (rs := [9]) (by kernel_rfl) (by simp) ?_
        refine AllReadyH.cons (o := _) rfl (fun K hK => ?_) AllReadyH.nil
        refine step_append_at (by rfl) (.tmp 23) (.tmp 31) 22 3 (.int .i64 0) 8 (by rfl) Try.underlying22 infoInt rfl (by omega) bS (.slice AO j cO) (ints ((quo cs L).take j)) (by rfl) (by exact o7) _ _ _ _ [.int .i64 u] (by rfl) rfl (Rd.of_blk (Blk.new_at _ _ _ (by simp)) (Nat.lt_succ_self _)) (fun u hu => by simp at hu; subst hu; rfl) (by rw [HSZ.out]; simp; omega) (by have := g7.size; simp; omega) ?_
        intro A8 c8 w8 ho8 hb8 hg8 hp8
        rw [HSZ.out, List.length_singleton] at ho8 hp8 ⊢
        have B98 := ((HB9.out.below g7 (by omega)).alloc (.cells #[.int .i64 u] 3)).grown hg8 (fun e => by have := HNO.out _ e.symm; omega)
        have s8 : w8.cell? ⟨g9, 0, none⟩ = some (.slice A3 L.length c3) := B98.cell 0
        refine hK.out _ _ s8 (fun _ => ?_)
        clear hK K
        try simp only [Act.put]
        refine wpAnyH_take (i := 10) (oi := ⟨some 6, _, _, _, _, _⟩) (v := ?vtb10) rfl (by kernel_rfl) (by kernel_rfl) (by kernel_rfl) (fun _ _ _ h => h) (Or.inl ⟨by kernel_rfl, ?hyb10⟩) (by assumption) ?_
        case hyb10 => (intro wh hSw; (try dsimp only at hSw); go_simp; try with_reducible rfl)
        simp only [Act.put, List.setIfInBounds_toArray]
        refine wpAnyH_done (by kernel_rfl) ?_ _
        refine NoPanic.normal ?_
        have hz7 := g7.size
        have hz8 := hg8.size
        have hza : (w7.alloc (.cells #[.int .i64 u] 3)).heap.size = w7.heap.size + 1 := by simp
        have hzz8 : V.heap.size ≤ w8.heap.size := by omega
        have hA7 := bel1 w7 (.cells #[.int .i64 u] 3)
        have e8 : ints ((quo cs L).take j) ++ [.int .i64 u] = ints ((quo cs L).take (j + 1)) := by rw [HTK.out, ints_snoc]
        rw [e8] at ho8
        have HOO8 := Lib.hid ho8
        have HOS8 := Lib.hid (((HOSV.out.below g7).below hA7).grown hg8 (((HOSV.out.below g7).below hA7).neT o7 (by decide)))
        have HSN8 := Lib.hid (((HSNV.out.below g7).below hA7).grownT o7 (by decide) hg8)
        have HO38 := Lib.hid (((HO3V.out.below g7).below hA7).grown hg8 (((HO3V.out.below g7).below hA7).neT o7 (by decide)))
        have HRR8 := Lib.hid (((HRRV.out.below g7 (by omega)).below hA7 (by omega)).grown hg8 (by omega) (fun k hk => HBO.out k hk))
        have HM8 := Lib.hid (((HMV.out.kept (belowG g7 none) (by simp)).kept (belowG hA7 none) (by simp)).kept hg8 (fun e => by have := HNO.out _ e.symm; omega))
        have HBX8 := Lib.hid (((HBXV.out.below g7 (by omega)).below hA7 (by omega)).grown hg8 (fun e => by have := HNO.out _ e.symm; omega))
        have HBY8 := Lib.hid (((HBYV.out.below g7 (by omega)).below hA7 (by omega)).grown hg8 (fun e => by have := HNO.out _ e.symm; omega))
        have HGR8 := Lib.hid (grown_new ((HGRV.out.trans (belowG g7 (some b))).trans (belowG hA7 (some b))) hg8 (fun k hk => by have := HNO.out k hk; omega))
        have HBO8 : Hid (∀ k, (Value.slice A8 (j + 1) c8).ownBlock = some k → k < lo2 ∨ B2 ≤ k) := Lib.hid fun k hk => by
          rcases hp8 with e | e
          · exact HBO.out k (e.symm.trans hk)
          · rw [e] at hk; injection hk with hk; right; omega
        clear hb5 g5 s5 o5 ho6 hb6 hg6 hp6 g6 s6 r6 t6 b6 z6 hb7 g7 s7 o7 ho8 hb8 hg8 hp8 B98 e8 hA7 hza hs9 HOSV HSNV HOOV HRRV HMV HBXV HBYV HGRV HO3V HB9 HBO HTK HS9 HCLO HIX
        go_wp2_with (at_builtin; refine wpList_append_at rfl _ _ 71 39 (.slice none 0 0) 24 rfl Try.underlying71 infoRB rfl (by omega) bS (.slice AS j cS) ds rfl (HOS8.out.below (bel1 _ _)) (w8.heap.size + 1) (some ⟨w8.heap.size, 0, none⟩) 1 1 [.slice A3 L.length c3] rfl rfl (Rd.of_blk (Blk.new _ _ _) (Nat.lt_succ_self _)) (fun u hu => by simp at hu; subst hu; rfl) (by rw [HDL.out]; simp; omega) (by simp; omega) ?_; intro A9 c9 w9 ho9 hb9 hg9 hp9; rw [HDL.out, List.length_singleton] at ho9 hp9 ⊢)
        have hz9 := hg9.size
        have hza : (w8.alloc (.cells #[.slice A3 L.length c3] 39)).heap.size = w8.heap.size + 1 := by simp
        have hzz9 : w8.heap.size ≤ w9.heap.size := by omega
        have hA8 := bel1 w8 (.cells #[.slice A3 L.length c3] 39)
        have oS := HOS8.out.below hA8
        have HOS9 := Lib.hid ho9
        have HSN9 := Lib.hid (HNW.out w9 ((HSN8.out.below hA8).grownT oS (by decide) hg9) ((HO38.out.below hA8).grown hg9 ((HO38.out.below hA8).neT oS (by decide))))
        have HOO9 := Lib.hid ((HOO8.out.below hA8).grown hg9 ((HOO8.out.below hA8).neT oS (by decide)))
        have HRR9 := Lib.hid ((HRR8.out.below hA8 (by omega)).grown hg9 (by omega) (fun k hk => HBS.out k hk))
        have HM9 := Lib.hid ((HM8.out.kept (belowG hA8 none) (by simp)).kept hg9 (fun e => by have := HNS.out _ e.symm; omega))
        have HBX9 := Lib.hid ((HBX8.out.below hA8 (by omega)).grown hg9 (fun e => by have := HNS.out _ e.symm; omega))
        have HBY9 := Lib.hid ((HBY8.out.below hA8 (by omega)).grown hg9 (fun e => by have := HNS.out _ e.symm; omega))
        have HGR9 := Lib.hid (grown_new (HGR8.out.trans (belowG hA8 (some b))) hg9 (fun k hk => by have := HNS.out k hk; omega))
        have HBS9 : Hid (∀ k, (Value.slice A9 (j + 1) c9).ownBlock = some k → k < lo2 ∨ B2 ≤ k) := Lib.hid fun k hk => by
          rcases hp9 with e | e
          · exact HBS.out k (e.symm.trans hk)
          · rw [e] at hk; injection hk with hk; right; omega
        have HAS9 : Hid (A9 ≠ none) := Lib.hid (by
          obtain ⟨g, hg, -⟩ := HOS9.out.at (by rw [List.length_append, List.length_singleton]; omega)
          rw [hg]; simp)
        clear ho9 hb9 hg9 hp9 oS hA8 hza s8
        go_roundw
        case rel => exact ⟨j + 1, A9, c9, A8, c8, ds ++ [.slice A3 L.length c3], K3, by go_num, by omega, rfl, rfl, HAS9.out, HOS9.out, HSN9.out, HOO9.out, HBS9.out, HBO8.out, HRR9.out, HM9.out, HBX9.out, HBY9.out, HGR9.out, by omega⟩
        case measure => simp [intOf]; omega
      · go_simp
        have hdV : Below V.heap.size V (V.alloc (.cells #[.slice A3 L.length c3] 39)).drew := (bel1 _ _).drew
        refine hK.out _ _ (HS9.out _ hdV) (fun _ => ?_)
        clear hK K
        try simp only [Act.put]
        refine wpAnyH_ready (rs := [2]) (by kernel_rfl) (by simp) ?_
        refine AllReadyH.cons (o := _) rfl (fun K hK => ?_) AllReadyH.nil
        go_simp
        (go_at_call 57; refine (HCLO.out _ hdV).mono ?_; rintro e w5 ⟨A5, c5, rfl, o5, g5, hb5⟩)
        have s5 : w5.cell? ⟨g9, 0, none⟩ = some (.slice A3 L.length c3) := HS9.out _ g5
        have k5 : Blk w5 V.heap.size 39 #[.slice A3 L.length c3] := Blk.below (Blk.drew' (Blk.new V 39 _)) hb5 (drew_alloc_lt _ _)
        dsimp only
        refine hK.out _ _ s5 (fun _ => ?_)
        clear hK K
        try simp only [Act.put]
        refine wpAnyH_ready (rs := [5]) (by kernel_rfl) (by simp) ?_
        refine AllReadyH.cons (o := _) rfl (fun K hK => ?_) AllReadyH.nil
        refine step_append_at (by rfl) (.tmp 25) (.tmp 27) 71 39 (.slice none 0 0) 24 (by rfl) Try.underlying71 infoRB rfl (by omega) V.heap.size (.slice A5 j c5) ds (by rfl) (o5) _ _ _ _ [.slice A3 L.length c3] (by rfl) rfl (Rd.of_blk k5 (Nat.lt_succ_self _)) (fun u hu => by simp at hu; subst hu; rfl) (by rw [HDL.out]; simp; omega) (by have := g5.size; first | omega | (simp; omega)) ?_
        intro A6 c6 w6 ho6 hb6 hg6 hp6
        rw [HDL.out, List.length_singleton] at ho6 ⊢
        have g6 : Below V.heap.size V w6 := g5.trans hb6
        have s6 : w6.cell? ⟨g9, 0, none⟩ = some (.slice A3 L.length c3) := HS9.out _ g6
        have r6 : Rd w6 w6.heap.size A6 c6 (ds ++ [.slice A3 L.length c3]) := Own.rd ho6
        have t6 : RdB w6 w6.heap.size A3 c3 sgn := Own.rd (HO3V.out.below g6)
        have b6 := (HNW.out w6 (HSNV.out.below g6) (HO3V.out.below g6)).bl (show j + 1 ≤ L.length by omega)
        have z6 := g6.size
        refine hK.out _ _ s6 (fun _ => ?_)
        clear hK K
        try simp only [Act.put]
        refine wpAnyH_ready (rs := [7]) (by kernel_rfl) (by simp) ?_
        refine AllReadyH.cons (o := _) rfl (fun K hK => ?_) AllReadyH.nil
        go_simp
        (go_at_call 56; refine (HIX.out w6 A6 c6 s6 (by omega) t6 r6 b6).mono ?_; rintro e w7 ⟨rfl, hb7⟩)
        dsimp only
        have g7 := gtr g6 hb7
        have s7 : w7.cell? ⟨g9, 0, none⟩ = some (.slice A3 L.length c3) := HS9.out _ g7
        refine hK.out _ _ s7 (fun _ => ?_)
        clear hK K
        try simp only [Act.put]
        refine wpAnyH_ready (rs := [8]) (by kernel_rfl) (by simp) ?_
        refine AllReadyH.cons (o := _) rfl (fun K hK => ?_) AllReadyH.nil
        go_simp
        refine hK.out _ _ (HS9.out _ (g7.trans ((bel1 _ _).mono g7.size))) (fun _ => ?_)
        clear hK K
        try simp only [Act.put]
        have o7 := (HOOV.out.below g7).below (bel1 w7 (.cells #[.int .i64 u] 3))
        refine wpAnyH_ready (rs := [9]) (by kernel_rfl) (by simp) ?_
        refine AllReadyH.cons (o := _) rfl (fun K hK => ?_) AllReadyH.nil
        refine step_append_at (by rfl) (.tmp 23) (.tmp 31) 22 3 (.int .i64 0) 8 (by rfl) Try.underlying22 infoInt rfl (by omega) bS (.slice AO j cO) (ints ((quo cs L).take j)) (by rfl) (by exact o7) _ _ _ _ [.int .i64 u] (by rfl) rfl (Rd.of_blk (Blk.new_at _ _ _ (by simp)) (Nat.lt_succ_self _)) (fun u hu => by simp at hu; subst hu; rfl) (by rw [HSZ.out]; simp; omega) (by have := g7.size; simp; omega) ?_
        intro A8 c8 w8 ho8 hb8 hg8 hp8
        rw [HSZ.out, List.length_singleton] at ho8 hp8 ⊢
        have B98 := ((HB9.out.below g7 (by omega)).alloc (.cells #[.int .i64 u] 3)).grown hg8 (fun e => by have := HNO.out _ e.symm; omega)
        have s8 : w8.cell? ⟨g9, 0, none⟩ = some (.slice A3 L.length c3) := B98.cell 0
        refine hK.out _ _ s8 (fun _ => ?_)
        clear hK K
        try simp only [Act.put]
        refine wpAnyH_take (i := 10) (oi := ⟨some 6, _, _, _, _, _⟩) (v := ?vtc10) rfl (by kernel_rfl) (by kernel_rfl) (by kernel_rfl) (fun _ _ _ h => h) (Or.inl ⟨by kernel_rfl, ?hyc10⟩) (by assumption) ?_
        case hyc10 => (intro wh hSw; (try dsimp only at hSw); go_simp; try with_reducible rfl)
        simp only [Act.put, List.setIfInBounds_toArray]
        refine wpAnyH_done (by kernel_rfl) ?_ _
        refine NoPanic.normal ?_
        have hz7 := g7.size
        have hz8 := hg8.size
        have hza : (w7.alloc (.cells #[.int .i64 u] 3)).heap.size = w7.heap.size + 1 := by simp
        have hzz8 : V.heap.size ≤ w8.heap.size := by omega
        have hA7 := bel1 w7 (.cells #[.int .i64 u] 3)
        have e8 : ints ((quo cs L).take j) ++ [.int .i64 u] = ints ((quo cs L).take (j + 1)) := by rw [HTK.out, ints_snoc]
        rw [e8] at ho8
        have HOO8 := Lib.hid ho8
        have HOS8 := Lib.hid (((HOSV.out.below g7).below hA7).grown hg8 (((HOSV.out.below g7).below hA7).neT o7 (by decide)))
        have HSN8 := Lib.hid (((HSNV.out.below g7).below hA7).grownT o7 (by decide) hg8)
        have HO38 := Lib.hid (((HO3V.out.below g7).below hA7).grown hg8 (((HO3V.out.below g7).below hA7).neT o7 (by decide)))
        have HRR8 := Lib.hid (((HRRV.out.below g7 (by omega)).below hA7 (by omega)).grown hg8 (by omega) (fun k hk => HBO.out k hk))
        have HM8 := Lib.hid (((HMV.out.kept (belowG g7 none) (by simp)).kept (belowG hA7 none) (by simp)).kept hg8 (fun e => by have := HNO.out _ e.symm; omega))
        have HBX8 := Lib.hid (((HBXV.out.below g7 (by omega)).below hA7 (by omega)).grown hg8 (fun e => by have := HNO.out _ e.symm; omega))
        have HBY8 := Lib.hid (((HBYV.out.below g7 (by omega)).below hA7 (by omega)).grown hg8 (fun e => by have := HNO.out _ e.symm; omega))
        have HGR8 := Lib.hid (grown_new ((HGRV.out.trans (belowG g7 (some b))).trans (belowG hA7 (some b))) hg8 (fun k hk => by have := HNO.out k hk; omega))
        have HBO8 : Hid (∀ k, (Value.slice A8 (j + 1) c8).ownBlock = some k → k < lo2 ∨ B2 ≤ k) := Lib.hid fun k hk => by
          rcases hp8 with e | e
          · exact HBO.out k (e.symm.trans hk)
          · rw [e] at hk; injection hk with hk; right; omega
        clear hb5 g5 s5 o5 ho6 hb6 hg6 hp6 g6 s6 r6 t6 b6 z6 hb7 g7 s7 o7 ho8 hb8 hg8 hp8 B98 e8 hA7 hza hs9 HOSV HSNV HOOV HRRV HMV HBXV HBYV HGRV HO3V HB9 HBO HTK HS9 HCLO HIX
        go_wp2_with (at_builtin; refine wpList_append_at rfl _ _ 71 39 (.slice none 0 0) 24 rfl Try.underlying71 infoRB rfl (by omega) bS (.slice AS j cS) ds rfl (HOS8.out.below (bel1 _ _)) (w8.heap.size + 1) (some ⟨w8.heap.size, 0, none⟩) 1 1 [.slice A3 L.length c3] rfl rfl (Rd.of_blk (Blk.new _ _ _) (Nat.lt_succ_self _)) (fun u hu => by simp at hu; subst hu; rfl) (by rw [HDL.out]; simp; omega) (by simp; omega) ?_; intro A9 c9 w9 ho9 hb9 hg9 hp9; rw [HDL.out, List.length_singleton] at ho9 hp9 ⊢)
        have hz9 := hg9.size
        have hza : (w8.alloc (.cells #[.slice A3 L.length c3] 39)).heap.size = w8.heap.size + 1 := by simp
        have hzz9 : w8.heap.size ≤ w9.heap.size := by omega
        have hA8 := bel1 w8 (.cells #[.slice A3 L.length c3] 39)
        have oS := HOS8.out.below hA8
        have HOS9 := Lib.hid ho9
        have HSN9 := Lib.hid (HNW.out w9 ((HSN8.out.below hA8).grownT oS (by decide) hg9) ((HO38.out.below hA8).grown hg9 ((HO38.out.below hA8).neT oS (by decide))))
        have HOO9 := Lib.hid ((HOO8.out.below hA8).grown hg9 ((HOO8.out.below hA8).neT oS (by decide)))
        have HRR9 := Lib.hid ((HRR8.out.below hA8 (by omega)).grown hg9 (by omega) (fun k hk => HBS.out k hk))
        have HM9 := Lib.hid ((HM8.out.kept (belowG hA8 none) (by simp)).kept hg9 (fun e => by have := HNS.out _ e.symm; omega))
        have HBX9 := Lib.hid ((HBX8.out.below hA8 (by omega)).grown hg9 (fun e => by have := HNS.out _ e.symm; omega))
        have HBY9 := Lib.hid ((HBY8.out.below hA8 (by omega)).grown hg9 (fun e => by have := HNS.out _ e.symm; omega))
        have HGR9 := Lib.hid (grown_new (HGR8.out.trans (belowG hA8 (some b))) hg9 (fun k hk => by have := HNS.out k hk; omega))
        have HBS9 : Hid (∀ k, (Value.slice A9 (j + 1) c9).ownBlock = some k → k < lo2 ∨ B2 ≤ k) := Lib.hid fun k hk => by
          rcases hp9 with e | e
          · exact HBS.out k (e.symm.trans hk)
          · rw [e] at hk; injection hk with hk; right; omega
        have HAS9 : Hid (A9 ≠ none) := Lib.hid (by
          obtain ⟨g, hg, -⟩ := HOS9.out.at (by rw [List.length_append, List.length_singleton]; omega)
          rw [hg]; simp)
        clear ho9 hb9 hg9 hp9 oS hA8 hza s8
        go_roundw
        case rel => exact ⟨j + 1, A9, c9, A8, c8, ds ++ [.slice A3 L.length c3], K3, by go_num, by omega, rfl, rfl, HAS9.out, HOS9.out, HSN9.out, HOO9.out, HBS9.out, HBO8.out, HRR9.out, HM9.out, HBX9.out, HBY9.out, HGR9.out, by omega⟩
        case measure => simp [intOf]; omega
    · obtain rfl : j = L.length := by omega
      have hq : (quo cs L).take L.length = quo cs L := by rw [List.take_of_length_le]; rw [quo_len]; omega
      rw [hq] at hOO
      have HM := Lib.hid hM; have HGR := Lib.hid hgr; have HOO := Lib.hid (hOO.le (show w.heap.size ≤ bS by omega))
      clear hRR hBX hBY hM hgr hOS hSN hOO hbS hbO hq
      go_wp2
      go_ret
      exact ⟨⟨AO, cO, rfl, HOO.out⟩, ⟨K', HM.out⟩, HGR.out⟩
end Go.Proofs.Ytbledcogbkeneaa
