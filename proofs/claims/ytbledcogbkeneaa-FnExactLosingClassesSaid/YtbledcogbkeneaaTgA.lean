/- Several texts in one: XTog XTogS XAdm. Conditions: none. -/
import Derived.Test.YtbledcogbkeneaaQuo0
import Derived.Test.YtbledcogbkeneaaVlA
import Derived.Test.YtbledcogbkeneaaBl
namespace Go.Proofs.Ytbledcogbkeneaa
open Go.RowKit Go.Maps
set_option linter.unusedVariables false

set_option maxHeartbeats 800000 in
theorem together_any (A A' : Option Addr) (c c' : Nat) (xs ys : List Int) (w : World) (B : Nat) (hB : B ≤ w.heap.size) (h : RdI w B A c xs) (h' : RdI w B A' c' ys) (hx : ∀ x ∈ xs, 0 ≤ x) (hy : ∀ y ∈ ys, 0 ≤ y) (hl : xs.length ≤ 1000) (hl' : ys.length ≤ 1000) :
    Calls Try.prog 55 #[.slice A xs.length c, .slice A' ys.length c'] w (RetI w (tog xs ys)) := by
  have hbA := bel1 w (.cells #[.slice A xs.length c, .slice A' ys.length c'] 22)
  have hzA : (w.alloc (.cells #[.slice A xs.length c, .slice A' ys.length c'] 22)).heap.size = w.heap.size + 1 := by simp
  have hrr : RdR (w.alloc (.cells #[.slice A xs.length c, .slice A' ys.length c'] 22)) 0 (w.heap.size + 1) (some ⟨w.heap.size, 0, none⟩) 2 [xs, ys] :=
    ⟨[.slice A xs.length c, .slice A' ys.length c'], Rd.of_lit (cs := [.slice A xs.length c, .slice A' ys.length c']) (Blk.new w 22 _) (by omega) (by simp), Lo.zero, (RowsAt.one ((RdI.below h hbA hB).more (by omega)) Lo.zero).append (RowsAt.one ((RdI.below h' hbA hB).more (by omega)) Lo.zero)⟩
  have hfl : [xs, ys].flatten = xs ++ ys := by simp
  have hcc := concat_any (some ⟨w.heap.size, 0, none⟩) 2 [xs, ys] (w.alloc (.cells #[.slice A xs.length c, .slice A' ys.length c'] 22)) 0 (w.heap.size + 1) (by omega) hrr (by rw [hfl, List.length_append]; omega)
  rw [hfl, show [xs, ys].length = 2 from rfl] at hcc
  have HCC := Lib.hid hcc
  have hpos : ∀ x ∈ xs ++ ys, 0 ≤ x := fun x hm => by rcases List.mem_append.1 hm with k | k; exact hx x k; exact hy x k
  have hal : (xs ++ ys).length ≤ 1000000 := by rw [List.length_append]; omega
  have hnl : (nz (xs ++ ys)).length ≤ 1000000 := Nat.le_trans (List.length_filter_le _ _) hal
  have HSR : Hid (srt (nz (xs ++ ys)) = tog xs ys) := Lib.hid rfl
  obtain ⟨zs, hzs⟩ : ∃ zs, zs = xs ++ ys := ⟨_, rfl⟩
  rw [← hzs] at HCC hpos hal hnl HSR
  clear hcc hrr hfl h h' hx hy hzs
  go_enter Try.func55, Try.ntmps55
  go_wp2_with (first
    | (go_at_call 73; (with_reducible refine (HCC.out).mono ?_); rintro e w1 ⟨A1, c1, rfl, ho1, hb1⟩)
    | (go_at_call 72; (with_reducible refine (filled_any A1 c1 zs w1 w1.heap.size (Nat.le_refl _) (ho1.rd rfl) hpos hal).mono ?_); rintro e w2 ⟨A2, c2, rfl, ho2, hb2⟩)
    | (go_at_call 74; (with_reducible refine (sortO_any A2 c2 w1.heap.size (nz zs) w2 hnl hb2.size (own_ints.1 ho2)).mono ?_); rintro e w3 ⟨rfl, ho3, hb3⟩))
  go_ret
  have hz1 := hb1.size
  have e1 : (nz zs).length = (tog xs ys).length := by rw [← HSR.out]; exact (srt_perm _).length_eq.symm
  rw [e1, HSR.out] at ho3
  rw [e1]
  exact ⟨A2, c2, rfl, own_ints.2 (ho3.le (by omega)), (gtr hbA hb1).trans ((hb2.trans hb3).mono (by omega))⟩

theorem step_append_at {P : Program} {w : World} {ops : Array Oper} {o : Oper} {a : Act} {K : Act → World → Prop} {Q : Exit → Act → World → Prop} {F : Prop} (hgd : o.guard = none) (s x : Operand) (T E : TypeId) (z : Value) (bytes : Nat)
    (ho : o.op = .call { callee := .builtin .append, args := #[s, x], argTypes := #[T, T] }) (ht : P.underlying T = some (.slice E))
    (hinfo : (P.info? E).map (fun i => (i.zero, i.size, i.bytes)) = some (some z, 1, bytes)) (hz : z.cells.size = 1) (hby : bytes ≤ 100)
    (base : Nat) (v : Value) (cs : List Value) (hs : a.eval s = v) (hown : Own w base E v cs) (B : Nat) (A : Option Addr) (m c : Nat) (ds : List Value) (hx : a.eval x = .slice A m c) (hm : m = ds.length) (hd : Rd w B A c ds) (h1 : ∀ u ∈ ds, u.oneCell' = true)
    (hlen : cs.length + ds.length ≤ 1000000000) (hbase : base ≤ w.heap.size)
    (h : ∀ A c w', Own w' base E (.slice A (cs.length + ds.length) c) (cs ++ ds) → Below base w w' → w.grownBy w' v.ownBlock → ((Value.slice A (cs.length + ds.length) c).ownBlock = v.ownBlock ∨ (Value.slice A (cs.length + ds.length) c).ownBlock = some w.heap.size) → K (a.put o.dst (.slice A (cs.length + ds.length) c)) w') :
    if Region.wanted o (yielded ops a.tmps) = true then Oper.wp P o a w K Q else F := by
  rw [if_pos (show Region.wanted o (yielded ops a.tmps) = true by simp [Region.wanted, hgd])]
  exact wp_append_at s x T E z bytes ho ht hinfo hz hby base v cs hs hown B A m c ds hx hm hd h1 hlen hbase h
theorem Own.grownLb {w w' : World} {base b : Nat} {E : TypeId} {v : Value} {cs : List Value} (h : Own w base E v cs) (hg : w.grownBy w' (some b)) (hb : b < base) : Own w' base E v cs := by
  refine h.grown hg ?_
  rcases hob : v.ownBlock with _ | k
  · exact .inl rfl
  · refine .inr fun e => ?_
    injection e with e
    have := (h.lt k hob).1
    omega
theorem sg_succ (cs : List Int) (L : List (List Int)) (x : List Int) (j : Nat) (h : j < L.length) : sg cs (L.take (j + 1)) x = sg cs (L.take j) x ++ [((mz cs (tog x (gl L j)) : Nat) : Int) != 0] := by
  unfold sg
  rw [List.take_succ_eq_append_getElem h, List.map_append, gl_lt h]
  congr 1
  simp only [List.map_cons, List.map_nil, List.cons.injEq, and_true]
  by_cases h0 : mz cs (tog x L[j]) = 0
  · simp [h0]
  · simp [h0]
theorem Rd.keepNb {w w' : World} {B c : Nat} {A : Option Addr} {cs : List Value} {row : Option Nat} (h : Rd w B A c cs) (hg : w.grownBy w' row) (hB : B ≤ w.heap.size) (hn : ∀ a, A = some a → row ≠ some a.block) : Rd w' B A c cs :=
  ⟨h.1, h.2.1, h.2.2.1, fun j hj => by
    obtain ⟨b, o, hA, hb, hc⟩ := h.2.2.2 j hj
    exact ⟨b, o, hA, hb, fun i u hi => (World.cell?_of_block (w := w) (a := ⟨b, o + i, none⟩) (hg.block b (by omega) fun e => hn _ hA e.symm)).trans (hc i u hi)⟩⟩
set_option maxRecDepth 100000 in
set_option maxHeartbeats 3200000 in
theorem signsI_any (cs : List Int) (hg : goodCode cs) (Ac : Option Addr) (cc B0 b : Nat) (hk0 : B0 ≤ b) (size many : Nat) (hs : size ≤ 6) (hm : many ≤ 6) (hsm : size * many ≤ 6) (xs : List Int) (w : World) (A : Option Addr) (c : Nat) (K : List (List Int))
    (hx : ∀ x ∈ xs, 0 ≤ x) (hxs : sm xs + (size * many : Nat) ≤ 20) (hxl : xs.length ≤ 1000) (hM : MapM w b cs K) (hcode : RdI w B0 Ac cc cs) (hr : RdI w w.heap.size A c xs) (hxb : ∀ a, A = some a → a.block ≠ b) :
    Calls Try.prog 42 #[.agg #[.slice Ac cs.length cc, .map (some b)], .agg #[.int .i64 size, .int .i64 many], .slice A xs.length c] w fun e w' =>
      (∃ A3 c3, e = .returned (.slice A3 (allTo size (many + 1)).length c3) ∧ Own w' w.heap.size 4 (.slice A3 (allTo size (many + 1)).length c3) (bls (sg cs (allTo size (many + 1)) xs))) ∧ (∃ K', MapM w' b cs K') ∧ w.grownBy w' (some b) := by
  have hbl := hM.lt
  have HCODE := Lib.hid hcode; have HG := Lib.hid hg; have HR := Lib.hid hr; have HX := Lib.hid hx
  have HMEM := Lib.hid fun p (hp : p ∈ allTo size (many + 1)) => (⟨fun y hy => by have := (allTo_mem hp).1 y hy; omega, allTo_sm hp, by have := (allTo_mem hp).2.2; omega⟩ : (∀ y ∈ p, 0 ≤ y) ∧ sm p ≤ (size * many : Nat) ∧ p.length ≤ 6)
  have hLle := allTo_le size hs (many + 1) (by omega)
  obtain ⟨L, hL⟩ : ∃ L, L = allTo size (many + 1) := ⟨_, rfl⟩
  have hpos := positions_any size many hs hm
  rw [← hL] at HMEM hLle hpos ⊢
  obtain ⟨W, hW⟩ : ∃ W, W = ((w.alloc (.cells #[.slice Ac cs.length cc, .map (some b)] 52)).alloc (.cells #[.int .i64 size, .int .i64 many] 28)).alloc (.cells #[] 4) := ⟨_, rfl⟩
  have hz1 : (w.alloc (.cells #[.slice Ac cs.length cc, .map (some b)] 52)).heap.size = w.heap.size + 1 := by simp
  have hz2 : ((w.alloc (.cells #[.slice Ac cs.length cc, .map (some b)] 52)).alloc (.cells #[.int .i64 size, .int .i64 many] 28)).heap.size = w.heap.size + 2 := by simp
  have hbW : Below w.heap.size w W := by rw [hW]; exact gtr (bel2 _ _ _) (bel1 _ _)
  have hBX : Blk W w.heap.size 52 #[.slice Ac cs.length cc, .map (some b)] := by rw [hW]; exact ((Blk.new _ _ _).alloc _).alloc _
  have hO : Own W (w.heap.size + 2) 4 (.slice (some ⟨w.heap.size + 2, 0, none⟩) 0 0) ([] : List Value) := by
    have := Own.empty ((w.alloc (.cells #[.slice Ac cs.length cc, .map (some b)] 52)).alloc (.cells #[.int .i64 size, .int .i64 many] 28)) 4 4 (w.heap.size + 2) (by omega)
    rw [hz2] at this
    rw [hW]; exact this
  have hzW : W.heap.size = w.heap.size + 3 := by rw [hW]; simp
  have hMW := hM.kept (belowG hbW none) (by simp)
  have HPOS := Lib.hid (hpos W)
  clear hpos hM hcode hr hg hx hL hz1 hz2
  go_enter Try.func42, Try.ntmps42
  go_wp2_with fail
  rw [← hW]
  clear hW
  ((with_reducible refine (HPOS.out).mono ?_); rintro e w1 ⟨A1, c1, rfl, hF1, hb1⟩)
  have g1 := gtr hbW hb1
  have hz1 := hb1.size
  have hM1 := hMW.kept (belowG hb1 none) (by simp)
  have hBX1 := hBX.below hb1 (by omega)
  have hO1 := hO.below hb1
  have hR1 := FrR.rd hF1
  obtain ⟨lo2, hlo2⟩ : ∃ lo2, lo2 = W.heap.size := ⟨_, rfl⟩
  obtain ⟨B2, hB2⟩ : ∃ B2, B2 = w1.heap.size := ⟨_, rfl⟩
  rw [← hlo2, ← hB2] at hR1
  have hblk : ∀ k, (Value.slice (some ⟨w.heap.size + 2, 0, none⟩) 0 0).ownBlock = some k → k < lo2 ∨ B2 ≤ k := fun k hk => by
    have hk : w.heap.size + 2 = k := by injection hk
    left; omega
  have hl0 : lo2 = w.heap.size + 3 := by omega
  have hBw : B2 ≤ w1.heap.size := by omega
  have hgr1 := belowG g1 (some b)
  clear hbW hBX hO hMW HPOS hF1 hb1 g1 hlo2 hB2 hz1 hzW
  obtain ⟨gO, hgO⟩ : ∃ gO, gO = w.heap.size + 2 := ⟨_, rfl⟩
  rw [← hgO] at hblk ⊢
  have hO2 : Own w1 (w.heap.size + 2) 4 (.slice (some ⟨gO, 0, none⟩) 0 0) (bls (sg cs (L.take 0) xs)) := by rw [hgO]; exact hO1
  clear hO1 hgO
  go_wp2
  go_loopw [7, 14] (fun v s wi => ∃ (j : Nat) (A7 : Option Addr) (c7 : Nat) (K' : List (List Int)), s = .int .i64 j ∧ j ≤ L.length ∧ v = .slice A7 j c7 ∧ Own wi (w.heap.size + 2) 4 (.slice A7 j c7) (bls (sg cs (L.take j) xs)) ∧ (∀ k, (Value.slice A7 j c7).ownBlock = some k → k < lo2 ∨ B2 ≤ k) ∧ RdR wi lo2 B2 A1 c1 L ∧ MapM wi b cs K' ∧ Blk wi w.heap.size 52 #[.slice Ac cs.length cc, .map (some b)] ∧ w.grownBy wi (some b) ∧ B2 ≤ wi.heap.size) (fun _ s _ => L.length - (intOf s).toNat)
  case atStart => exact ⟨0, some ⟨gO, 0, none⟩, 0, K, rfl, by omega, rfl, hO2, hblk, hR1, hM1, hBX1, hgr1, hBw⟩
  case round =>
    clear hO2 hR1 hM1 hBX1 hgr1 hblk hBw
    obtain ⟨j, A7, c7, K', rfl, hj, rfl, hO, hblk, hRR, hM, hBX, hgr, hBw⟩ := hrel
    by_cases hlt : j < L.length
    · have hLw := hgr.size
      have hbo : ∀ k, (Value.slice A7 j c7).ownBlock = some k → w.heap.size + 2 ≤ k ∧ k < wr.heap.size := fun k hk => hO.lt k hk
      obtain ⟨bL, oL, rfl, hbL, hcL⟩ := hRR.at (j := j) hlt
      obtain ⟨Aj, cj, hcj, hrj⟩ := hcL j hlt
      obtain ⟨hp0, hps, hpl⟩ := HMEM.out (gl L j) (by rw [gl_lt hlt]; exact List.getElem_mem hlt)
      have hth : Hp 20 (tog xs (gl L j)) := tog_hp HX.out hp0 (by omega)
      have hxr : RdI wr w.heap.size A c xs := Rd.keepNb HR.out hgr (Nat.le_refl _) (fun a ha e => by injection e with e; exact hxb a ha e.symm)
      have hcr : RdI wr B0 Ac cc cs := Rd.grown (lo := 0) HCODE.out Lo.zero hgr (by omega) fun k hk => by injection hk with hk; omega
      have HSG := Lib.hid (sg_succ cs L xs j hlt)
      have hT := together_any A Aj c cj xs (gl L j) wr.drew wr.heap.size (Nat.le_refl _) ((hxr.below (gdrew (a := wr)) hLw).more hLw) ((hrj.below (gdrew (a := wr)) hBw).more hBw) HX.out hp0 hxl (by omega)
      obtain ⟨q, hq⟩ : ∃ q, q = tog xs (gl L j) := ⟨_, rfl⟩
      rw [← hq] at hth hT HSG
      have HV : Hid (∀ W' A3 c3, Below wr.heap.size wr W' → OwnI W' wr.heap.size (.slice A3 q.length c3) q → Calls Try.prog 54 #[.agg #[.slice Ac cs.length cc, .map (some b)], .slice A3 q.length c3, .int .i64 0, .int .i64 0] W' fun e w' =>
          e = .returned (.int .i64 (mz cs q : Nat)) ∧ (∃ K', MapM w' b cs K') ∧ W'.grownBy w' (some b)) := Lib.hid fun W' A3 c3 hW ho3 =>
        valI cs HG.out Ac cc B0 b hk0 q W' A3 c3 K' hth (hM.kept (belowG hW none) (by simp)) (hcr.below hW (by omega)) (ho3.rd rfl) (fun a ha => by subst ha; have := (ho3.lt a.block rfl).1; omega)
      obtain ⟨u, hu⟩ : ∃ u, u = mz cs q := ⟨_, rfl⟩
      rw [← hu] at HV HSG
      obtain ⟨ub, hub⟩ : ∃ ub, ub = ((u : Int) != 0) := ⟨_, rfl⟩
      rw [← hub] at HSG
      have hnu : ((u : Int) != 0) = ub := hub.symm
      have q0 : wr.cell? ⟨w.heap.size, 0, none⟩ = some (.slice Ac cs.length cc) := hBX.cell 0
      have q1 : wr.cell? ⟨w.heap.size, 1, none⟩ = some (.map (some b)) := hBX.cell 1
      have hGl := hBX.lt
      have HS4 : Hid (∀ W', Below wr.heap.size wr W' → W'.cell? ⟨w.heap.size, 0, none⟩ = some (.slice Ac cs.length cc) ∧ W'.cell? ⟨w.heap.size, 1, none⟩ = some (.map (some b))) := Lib.hid fun W' hW => ⟨(hBX.below hW hGl).cell 0, (hBX.below hW hGl).cell 1⟩
      have HT := Lib.hid hT; have HO := Lib.hid hO; have HRR := Lib.hid hRR; have HBX := Lib.hid hBX; have HGR := Lib.hid hgr
      have E8 : Hid ((bls (sg cs (L.take j) xs)).length = j) := Lib.hid (by rw [bls_len, sg_len, List.length_take]; omega)
      have HBO := Lib.hid hbo; have HBLK := Lib.hid hblk
      clear hT hO hRR hM hBX hgr hcL hrj hp0 hps hpl hth hxr hcr hq hu hub hbo hblk
      go_wp2
      go_region_held3 (fun w' => w'.cell? ⟨w.heap.size, 0, none⟩ = some (.slice Ac cs.length cc) ∧ w'.cell? ⟨w.heap.size, 1, none⟩ = some (.map (some b))) (go_keep)
        (first
          | (go_at_call 55; refine (HT.out).mono ?_; rintro e w3 ⟨A3, c3, rfl, ho3, hb3⟩; have g3 := gtr (gdrew (a := wr)) hb3; have s3 := (HS4.out _ g3).1; have s3' := (HS4.out _ g3).2)
          | (go_at_call 54; refine (HV.out w3 A3 c3 g3 ho3).mono ?_; rintro e w4 ⟨rfl, ⟨K4, hM4⟩, hg4⟩; have hB4 := (HBX.out.below g3 hGl).grown hg4 (by simp; omega); have s4 := hB4.cell 0; have s4' := hB4.cell 1)
          | (have hO4 := (Own.grownLb (HO.out.below g3) hg4 (by omega)).below (bel1 w4 (.cells #[.bool ub] 4)); refine step_append_at (by rfl) (.tmp 18) (.tmp 25) 39 4 (.bool false) 1 (by rfl) Try.underlying39 infoBo rfl (by omega) (w.heap.size + 2) (.slice A7 j c7) (bls (sg cs (L.take j) xs)) (by rfl) (by exact hO4) _ _ _ _ [.bool ub] (by rfl) rfl (Rd.of_blk (Blk.new_at _ _ _ (by simp)) (Nat.lt_succ_self _)) (fun u hu => by simp at hu; subst hu; rfl) (by rw [E8.out]; simp; omega) (by have := g3.size; have := hg4.size; simp; omega) ?_; intro A5 c5 w5 ho5 hb5 hg5 hp5; rw [E8.out] at ho5 hp5 ⊢; have hB5 := (hB4.alloc (.cells #[.bool ub] 4)).grown hg5 (fun e => by have := HBO.out _ e.symm; omega); have s5 : w5.cell? ⟨w.heap.size, 0, none⟩ = some (.slice Ac cs.length cc) := hB5.cell 0; have s5' : w5.cell? ⟨w.heap.size, 1, none⟩ = some (.map (some b)) := hB5.cell 1; have hM5 := (hM4.kept (belowG (bel1 w4 (.cells #[.bool ub] 4)) none) (by simp)).kept hg5 (fun e => by have := HBO.out _ e.symm; omega)))
      all_goals
        rw [List.length_singleton] at ho5 hp5 ⊢
        have hz3 := g3.size
        have hz4 := hg4.size
        have hz5 := hg5.size
        simp at hz5
        have e9 : bls (sg cs (L.take j) xs) ++ [.bool ub] = bls (sg cs (L.take (j + 1)) xs) := by rw [HSG.out, bls_snoc]
        rw [e9] at ho5
        have HO5 := Lib.hid ho5; have HM5 := Lib.hid hM5; have HB5 := Lib.hid hB5
        have HRR5 : Hid (RdR w5 lo2 B2 (some ⟨bL, oL, none⟩) c1 L) := Lib.hid ((((HRR.out.below g3 hBw).grown hg4 (by omega) (fun k hk => by injection hk with hk; omega)).below (bel1 w4 (.cells #[.bool ub] 4)) (by omega)).grown hg5 (by simp; omega) (fun k hk => HBLK.out k hk))
        have HBK5 : Hid (∀ k, (Value.slice A5 (j + 1) c5).ownBlock = some k → k < lo2 ∨ B2 ≤ k) := Lib.hid fun k hk => by
          rcases hp5 with e | e
          · exact HBLK.out k (e.symm.trans hk)
          · rw [e] at hk; injection hk with hk; simp at hk; right; omega
        have HGR5 : Hid (w.grownBy w5 (some b)) := Lib.hid (World.grownBy.andThen (((HGR.out.trans (belowG g3 (some b))).trans hg4).trans (belowG (bel1 w4 (.cells #[.bool ub] 4)) (some b))) hg5 (fun k hk => .inl (by have := HBO.out k hk; omega)))
        clear ho5 hM5 hB5 hb5 hg5 hp5 hO4 hB4 hM4 hg4 s4 s4' s3 s3' g3 hb3 ho3 e9 s5 s5'
        go_wp2
        go_roundw
        case rel => exact ⟨j + 1, A5, c5, K4, by go_num, by omega, rfl, HO5.out, HBK5.out, HRR5.out, HM5.out, HB5.out, HGR5.out, by omega⟩
        case measure => simp [intOf]; omega
    · obtain rfl : j = L.length := by omega
      have HO := Lib.hid hO; have HM := Lib.hid hM; have HGR := Lib.hid hgr
      rw [List.take_length] at HO
      clear hO hM hgr hblk hRR hBX
      go_wp2
      go_ret
      exact ⟨⟨A7, c7, rfl, HO.out.le (by omega)⟩, ⟨K', HM.out⟩, HGR.out⟩
end Go.Proofs.Ytbledcogbkeneaa
namespace Go.Proofs.Ytbledcogbkeneaa
open Go.RowKit Go.Maps
set_option linter.unusedVariables false

set_option maxRecDepth 100000 in
set_option maxHeartbeats 3200000 in
theorem signsS_any (cs : List Int) (hg : goodCode cs) (Ac : Option Addr) (cc B0 g gk gv : Nat) (hk0 : B0 ≤ gk) (hv0 : B0 ≤ gv) (size many : Nat) (hs : size ≤ 6) (hm : many ≤ 6) (hsm : size * many ≤ 6) (xs : List Int) (w : World) (A : Option Addr) (c : Nat) (ks vs : List Int)
    (hx : ∀ x ∈ xs, 0 ≤ x) (hxs : sm xs + (size * many : Nat) ≤ 20) (hxl : xs.length ≤ 1000) (hM : BookM w g gk gv Ac cc cs ks vs) (hcode : RdI w B0 Ac cc cs) (hr : RdI w w.heap.size A c xs) (hne : ∀ a, A = some a → a.block ≠ gk ∧ a.block ≠ gv) :
    Calls Try.prog 29 #[.pointer (some ⟨g, 0, none⟩), .agg #[.int .i64 size, .int .i64 many], .slice A xs.length c] w fun e w' =>
      (∃ A3 c3, e = .returned (.slice A3 (allTo size (many + 1)).length c3) ∧ Own w' w.heap.size 4 (.slice A3 (allTo size (many + 1)).length c3) (bls (sg cs (allTo size (many + 1)) xs))) ∧ (∃ ks' vs', BookM w' g gk gv Ac cc cs ks' vs') ∧ Tw w w' gk gv := by
  obtain ⟨hgl, hgkl, hgvl⟩ := hM.lt
  have HCODE := Lib.hid hcode; have HG := Lib.hid hg; have HR := Lib.hid hr; have HX := Lib.hid hx; have HNE := Lib.hid hne
  have HMEM := Lib.hid fun p (hp : p ∈ allTo size (many + 1)) => (⟨fun y hy => by have := (allTo_mem hp).1 y hy; omega, allTo_sm hp, by have := (allTo_mem hp).2.2; omega⟩ : (∀ y ∈ p, 0 ≤ y) ∧ sm p ≤ (size * many : Nat) ∧ p.length ≤ 6)
  have hLle := allTo_le size hs (many + 1) (by omega)
  obtain ⟨L, hL⟩ : ∃ L, L = allTo size (many + 1) := ⟨_, rfl⟩
  have hpos := l20All_any size many hs hm
  rw [← hL] at HMEM hLle hpos ⊢
  obtain ⟨W, hW⟩ : ∃ W, W = (w.alloc (.cells #[.int .i64 size, .int .i64 many] 28)).alloc (.cells #[] 4) := ⟨_, rfl⟩
  have hz1 : (w.alloc (.cells #[.int .i64 size, .int .i64 many] 28)).heap.size = w.heap.size + 1 := by simp
  have hbW : Below w.heap.size w W := by rw [hW]; exact bel2 _ _ _
  have hO : Own W (w.heap.size + 1) 4 (.slice (some ⟨w.heap.size + 1, 0, none⟩) 0 0) ([] : List Value) := by
    have := Own.empty (w.alloc (.cells #[.int .i64 size, .int .i64 many] 28)) 4 4 (w.heap.size + 1) (by omega)
    rw [hz1] at this
    rw [hW]; exact this
  have hzW : W.heap.size = w.heap.size + 2 := by rw [hW]; simp
  have hMW := hM.below hbW
  have HPOS := Lib.hid (hpos W)
  clear hpos hM hcode hr hg hx hL hz1 hne
  go_enter Try.func29, Try.ntmps29
  go_wp2_with fail
  rw [← hW]
  clear hW
  ((with_reducible refine (HPOS.out).mono ?_); rintro e w1 ⟨A1, c1, rfl, hF1, hb1⟩)
  have g1 := gtr hbW hb1
  have hz1 := hb1.size
  have hM1 := hMW.below hb1
  have hO1 := hO.below hb1
  have hR1 := FrR.rd hF1
  obtain ⟨lo2, hlo2⟩ : ∃ lo2, lo2 = W.heap.size := ⟨_, rfl⟩
  obtain ⟨B2, hB2⟩ : ∃ B2, B2 = w1.heap.size := ⟨_, rfl⟩
  rw [← hlo2, ← hB2] at hR1
  have hblk : ∀ k, (Value.slice (some ⟨w.heap.size + 1, 0, none⟩) 0 0).ownBlock = some k → k < lo2 ∨ B2 ≤ k := fun k hk => by
    have hk : w.heap.size + 1 = k := by injection hk
    left; omega
  have hl0 : lo2 = w.heap.size + 2 := by omega
  have hBw : B2 ≤ w1.heap.size := by omega
  have hT1 : Tw w w1 gk gv := Tw.of_below g1
  clear hbW hO hMW HPOS hF1 hb1 g1 hlo2 hB2 hz1 hzW
  obtain ⟨gO, hgO⟩ : ∃ gO, gO = w.heap.size + 1 := ⟨_, rfl⟩
  rw [← hgO] at hblk ⊢
  have hO2 : Own w1 (w.heap.size + 1) 4 (.slice (some ⟨gO, 0, none⟩) 0 0) (bls (sg cs (L.take 0) xs)) := by rw [hgO]; exact hO1
  clear hO1 hgO
  go_wp2
  go_loopw [7, 9] (fun v s wi => ∃ (j : Nat) (A7 : Option Addr) (c7 : Nat) (ks vs : List Int), s = .int .i64 j ∧ j ≤ L.length ∧ v = .slice A7 j c7 ∧ Own wi (w.heap.size + 1) 4 (.slice A7 j c7) (bls (sg cs (L.take j) xs)) ∧ (∀ k, (Value.slice A7 j c7).ownBlock = some k → k < lo2 ∨ B2 ≤ k) ∧ RdR wi lo2 B2 A1 c1 L ∧ BookM wi g gk gv Ac cc cs ks vs ∧ Tw w wi gk gv ∧ B2 ≤ wi.heap.size) (fun _ s _ => L.length - (intOf s).toNat)
  case atStart => exact ⟨0, some ⟨gO, 0, none⟩, 0, ks, vs, rfl, by omega, rfl, hO2, hblk, hR1, hM1, hT1, hBw⟩
  case round =>
    clear hO2 hR1 hM1 hT1 hblk hBw
    obtain ⟨j, A7, c7, ks, vs, rfl, hj, rfl, hO, hblk, hRR, hM, hT, hBw⟩ := hrel
    by_cases hlt : j < L.length
    · have hLw := hT.size
      have hbo : ∀ k, (Value.slice A7 j c7).ownBlock = some k → w.heap.size + 1 ≤ k ∧ k < wr.heap.size := fun k hk => hO.lt k hk
      obtain ⟨bL, oL, rfl, hbL, hcL⟩ := hRR.at (j := j) hlt
      obtain ⟨Aj, cj, hcj, hrj⟩ := hcL j hlt
      obtain ⟨hp0, hps, hpl⟩ := HMEM.out (gl L j) (by rw [gl_lt hlt]; exact List.getElem_mem hlt)
      have hth : Hp 20 (tog xs (gl L j)) := tog_hp HX.out hp0 (by omega)
      have HXR := Lib.hid (HR.out.tw hT (Nat.le_refl _) HNE.out)
      have hcr : RdI wr B0 Ac cc cs := HCODE.out.twLow hT (by omega) hk0 hv0
      have HSG := Lib.hid (sg_succ cs L xs j hlt)
      have HRJ := Lib.hid hrj
      obtain ⟨p, hp⟩ : ∃ p, p = gl L j := ⟨_, rfl⟩
      rw [← hp] at hth HSG hp0 hps hpl HRJ hcj
      obtain ⟨zs, hzs⟩ : ∃ zs, zs = xs ++ p := ⟨_, rfl⟩
      have HTO : Hid (srt (nz zs) = tog xs p) := Lib.hid (by rw [hzs]; rfl)
      have hxpl : zs.length ≤ 2000 := by rw [hzs, List.length_append]; omega
      obtain ⟨q, hq⟩ : ∃ q, q = tog xs p := ⟨_, rfl⟩
      rw [← hq] at hth HSG HTO
      obtain ⟨u, hu⟩ : ∃ u, u = mz cs q := ⟨_, rfl⟩
      have HU := Lib.hid hu
      rw [← hu] at HSG
      obtain ⟨ub, hub⟩ : ∃ ub, ub = ((u : Int) != 0) := ⟨_, rfl⟩
      rw [← hub] at HSG
      have hnu : ((u : Int) != 0) = ub := hub.symm
      have HS4 : Hid (∀ W', Below wr.heap.size wr W' → W'.cell? ⟨bL, oL + j, none⟩ = some (.slice Aj p.length cj)) := Lib.hid fun W' hW => (hW.cell (p := ⟨bL, oL + j, none⟩) (by show bL < _; omega)).trans hcj
      have HO := Lib.hid hO; have HRR := Lib.hid hRR; have HT := Lib.hid hT; have HM := Lib.hid hM; have HCR := Lib.hid hcr; have HTH := Lib.hid hth
      have E8 : Hid ((bls (sg cs (L.take j) xs)).length = j) := Lib.hid (by rw [bls_len, sg_len, List.length_take]; omega)
      have HBO := Lib.hid hbo; have HBLK := Lib.hid hblk
      have hbA : Below wr.heap.size wr (wr.alloc (.cells #[] 3)).drew := (bel1 wr _).drew
      have HOE : Hid (Own (wr.alloc (.cells #[] 3)).drew wr.heap.size 3 (.slice (some ⟨wr.heap.size, 0, none⟩) 0 0) (ints [])) := Lib.hid (Own.empty wr 3 3 wr.heap.size (Nat.le_refl _))
      have hzA : wr.heap.size ≤ (wr.alloc (.cells #[] 3)).drew.heap.size := hbA.size
      have HBA := Lib.hid hbA
      have E1 : Hid ((ints []).length + (ints xs).length = xs.length) := Lib.hid (by rw [ints_len, ints_len]; simp)
      have E2 : Hid ((ints xs).length + (ints p).length = zs.length) := Lib.hid (by rw [hzs, ints_len, ints_len, List.length_append])
      have HE3 : Hid (∀ W6 A6 c6, Own W6 wr.heap.size 3 (.slice A6 zs.length c6) (ints xs ++ ints p) → RdI W6 W6.heap.size A6 c6 zs) := Lib.hid fun W6 A6 c6 ho => by
        have e : ints xs ++ ints p = ints zs := by rw [hzs]; simp [ints]
        rw [e] at ho
        exact Own.rd ho
      clear hO hRR hM hT hcL hrj hp0 hps hth hcr hq hub hu hbo hblk hp hbA hzs
      go_wp2
      go_region_held3 (fun w' => w'.cell? ⟨bL, oL + j, none⟩ = some (.slice Aj p.length cj)) (go_keep)
        (first
          | (refine step_append_rd (by rfl) (.tmp 20) (.tmp 21) 22 3 (.int .i64 0) 8 (by rfl) Try.underlying22 infoInt rfl (by omega) wr.heap.size (.slice (some ⟨wr.heap.size, 0, none⟩) 0 0) (ints []) (by rfl) (by exact HOE.out) w.heap.size A xs.length c (ints xs) (by rfl) (by rw [ints_len]) (by exact RdI.below HXR.out HBA.out hLw) (fun u hu => ints_one hu) (by rw [E1.out]; omega) (by exact hzA) ?_; intro A5 c5 w5 ho5 hb5 hg5; rw [E1.out] at ho5 ⊢; have ho5' : Own w5 wr.heap.size 3 (.slice A5 xs.length c5) (ints xs) := ho5; clear ho5; have g5 := HBA.out.trans hb5; have s5 := HS4.out _ g5)
          | (refine step_append_rd (by rfl) (.tmp 22) (.tmp 26) 22 3 (.int .i64 0) 8 (by rfl) Try.underlying22 infoInt rfl (by omega) wr.heap.size (.slice A5 xs.length c5) (ints xs) (by rfl) (by exact ho5') B2 Aj p.length cj (ints p) (by rfl) (by rw [ints_len]) (by exact RdI.below HRJ.out g5 hBw) (fun u hu => ints_one hu) (by rw [E2.out]; omega) (by exact g5.size) ?_; intro A6 c6 w6 ho6 hb6 hg6; rw [E2.out] at ho6 ⊢; have g6 := g5.trans hb6; have s6 := HS4.out _ g6)
          | (go_at_call 48; refine (sortS_any A6 c6 zs w6 w6.heap.size (Nat.le_refl _) (HE3.out w6 A6 c6 ho6) (by omega)).mono ?_; rintro e w3 ⟨A3, c3, rfl, ho3, hb3⟩; rw [HTO.out] at ho3 ⊢; have g3 := gtr g6 hb3; have s3 := HS4.out _ g3))
      have hz6 := g6.size
      have hz3 := g3.size
      have hv := valS cs HG.out Ac cc B0 g gk gv hk0 hv0 q w3 A3 c3 ks vs HTH.out (HM.out.below g3) (HCR.out.below g3 (by omega)) (ho3.rd rfl) (fun a ha => by subst ha; have := (ho3.lt a.block rfl).1; exact ⟨by omega, by omega⟩)
      rw [← HU.out] at hv
      have HV := Lib.hid hv
      have HG3 := Lib.hid g3
      clear hv ho5' hb5 hg5 g5 s5 ho6 hb6 hg6 g6 s6 ho3 hb3 g3 s3 hcj hzA
      go_wp2_with fail
      ((with_reducible refine (HV.out).mono ?_); rintro e w4 ⟨rfl, ⟨ks4, vs4, hM4⟩, hT4⟩)
      have hz4 := hT4.size
      have HO4 := Lib.hid ((HO.out.below HG3.out).tw hT4 (fun k hk => by have := HBO.out k hk; omega))
      have HRR4 := Lib.hid ((HRR.out.below HG3.out hBw).tw hT4 (by omega) (.inl (by omega)) (.inl (by omega)))
      have HT4 := Lib.hid ((HT.out.below' HG3.out).trans hT4)
      have HM4 := Lib.hid hM4
      clear hT4 hM4
      go_wp2_with (at_builtin; refine wpList_append_at rfl _ _ 39 4 (.bool false) 1 rfl Try.underlying39 infoBo rfl (by omega) (w.heap.size + 1) (.slice A7 j c7) (bls (sg cs (L.take j) xs)) rfl (HO4.out.below (bel1 _ _)) (w4.heap.size + 1) (some ⟨w4.heap.size, 0, none⟩) 1 1 [.bool ub] rfl rfl (Rd.of_blk (Blk.new _ _ _) (Nat.lt_succ_self _)) (fun u hu => by simp at hu; subst hu; rfl) (by rw [E8.out]; simp; omega) (by simp; omega) ?_; intro A8 c8 w8 ho8 hb8 hg8 hp8; rw [E8.out, List.length_singleton] at ho8 hp8 ⊢)
      have hz8 := hg8.size
      have hza : (w4.alloc (.cells #[.bool ub] 4)).heap.size = w4.heap.size + 1 := by simp
      have e9 : bls (sg cs (L.take j) xs) ++ [.bool ub] = bls (sg cs (L.take (j + 1)) xs) := by rw [HSG.out, bls_snoc]
      rw [e9] at ho8
      have HO8 := Lib.hid ho8; have HG8 := Lib.hid hg8
      have HBK8 : Hid (∀ k, (Value.slice A8 (j + 1) c8).ownBlock = some k → k < lo2 ∨ B2 ≤ k) := Lib.hid fun k hk => by
        rcases hp8 with e | e
        · exact HBLK.out k (e.symm.trans hk)
        · rw [e] at hk; injection hk with hk; right; omega
      clear ho8 hb8 hg8 hp8 e9
      go_roundw
      case rel => exact ⟨j + 1, A8, c8, ks4, vs4, by go_num, by omega, rfl, HO8.out, HBK8.out, (HRR4.out.below (bel1 _ _) (by omega)).grown HG8.out (by omega) (fun k hk => HBLK.out k hk), (HM4.out.below (bel1 _ _)).grown HG8.out (fun k hk => by have := HBO.out k hk; exact ⟨by omega, by omega, by omega⟩), (HT4.out.below' (bel1 _ _)).grown HG8.out (fun k hk => by have := HBO.out k hk; omega), by omega⟩
      case measure => simp [intOf]; omega
    · obtain rfl : j = L.length := by omega
      have HO := Lib.hid hO; have HM := Lib.hid hM; have HT := Lib.hid hT
      rw [List.take_length] at HO
      clear hO hM hT hblk hRR
      go_wp2
      go_ret
      exact ⟨⟨A7, c7, rfl, HO.out.le (by omega)⟩, ⟨ks, vs, HM.out⟩, HT.out⟩
end Go.Proofs.Ytbledcogbkeneaa
namespace Go.Proofs.Ytbledcogbkeneaa
open Go.RowKit
set_option linter.unusedVariables false

theorem goodBox_of {s m : Int} (h : goodBoxB s m = true) : ∃ a b : Nat, s = a ∧ m = b ∧ 1 ≤ a ∧ a ≤ 6 ∧ 1 ≤ b ∧ b ≤ 6 ∧ a * b ≤ 6 := by
  unfold goodBoxB at h
  simp only [Bool.and_eq_true, decide_eq_true_eq] at h
  obtain ⟨⟨⟨⟨h1, h2⟩, h3⟩, h4⟩, h5⟩ := h
  obtain ⟨a, rfl⟩ := Int.eq_ofNat_of_zero_le (show 0 ≤ s by omega)
  obtain ⟨b, rfl⟩ := Int.eq_ofNat_of_zero_le (show 0 ≤ m by omega)
  exact ⟨a, b, rfl, rfl, by omega, by omega, by omega, by omega, by exact_mod_cast h5⟩
/-- Whether a code, a box and a position are admissible. -/
noncomputable def admB (cs : List Int) (s m : Int) (p : List Int) : Bool := goodBoxB s m && smallB cs p (20 - s * m)

set_option maxHeartbeats 800000 in
theorem admI_any (A A' : Option Addr) (c c' : Nat) (s m : Int) (cs p : List Int) (w : World) (B : Nat) (hB : B ≤ w.heap.size) (h : RdI w B A c cs) (h' : RdI w B A' c' p) :
    Calls Try.prog 31 #[.slice A cs.length c, .agg #[.int .i64 s, .int .i64 m], .slice A' p.length c'] w fun e w' => e = .returned (.bool (admB cs s m p)) ∧ Below w.heap.size w w' := by
  have HGB := Lib.hid fun W => goodBoxI_any s m W
  rcases hb : goodBoxB s m with _ | _
  · rw [hb] at HGB
    have HN : Hid (admB cs s m p = false) := Lib.hid (by rw [admB, hb]; rfl)
    clear hb
    go_enter Try.func31, Try.ntmps31
    go_wp2_with (go_at_call 38; (with_reducible refine (HGB.out _).mono ?_); rintro e w1 ⟨rfl, hb1⟩)
    go_ret
    exact ⟨by rw [HN.out]; rfl, gtr (bel1 _ _) hb1⟩
  · rw [hb] at HGB
    have HN : Hid (admB cs s m p = smallB cs p (20 - s * m)) := Lib.hid (by rw [admB, hb]; rfl)
    obtain ⟨a, b, rfl, rfl, h1, h2, h3, h4, h5⟩ := goodBox_of hb
    have hw1 := wrap_mul (a : Int) (b : Int) (by omega) (by omega) (by omega) (by omega)
    have h5' : (a : Int) * b ≤ 6 := by exact_mod_cast h5
    have h6' : 0 ≤ (a : Int) * b := Int.mul_nonneg (by omega) (by omega)
    have hw2 : IntKind.i64.wrap (20 - (a : Int) * b) = 20 - (a : Int) * b := by rw [IntKind.wrap_i64]; omega
    clear hb h5 h5' h6'
    go_enter Try.func31, Try.ntmps31
    go_wp2_with (first
      | (go_at_call 38; (with_reducible refine (HGB.out _).mono ?_); rintro e w1 ⟨rfl, hb1⟩; have B1 := (Blk.new w 28 #[.int .i64 (a : Int), .int .i64 (b : Int)]).below hb1 (by simp); have c0 : w1.cell? ⟨w.heap.size, 0, none⟩ = some (.int .i64 (a : Int)) := B1.cell 0; have c1 : w1.cell? ⟨w.heap.size, 1, none⟩ = some (.int .i64 (b : Int)) := B1.cell 1; have g1 := gtr (bel1 w (.cells #[.int .i64 (a : Int), .int .i64 (b : Int)] 28)) hb1)
      | (go_at_call 50; (with_reducible refine (smallI_any A A' c c' cs p _ w1 B (h.below g1 hB) (h'.below g1 hB)).mono ?_); rintro e w2 ⟨rfl, rfl⟩))
    go_ret
    exact ⟨by rw [HN.out]; rfl, g1⟩

set_option maxHeartbeats 800000 in
theorem admS_any (A A' : Option Addr) (c c' : Nat) (s m : Int) (cs p : List Int) (w : World) (B : Nat) (hB : B ≤ w.heap.size) (h : RdI w B A c cs) (h' : RdI w B A' c' p) :
    Calls Try.prog 26 #[.slice A cs.length c, .agg #[.int .i64 s, .int .i64 m], .slice A' p.length c'] w fun e w' => e = .returned (.bool (admB cs s m p)) ∧ Below w.heap.size w w' := by
  have HGB := Lib.hid fun W => goodBoxS_any s m W
  rcases hb : goodBoxB s m with _ | _
  · rw [hb] at HGB
    have HN : Hid (admB cs s m p = false) := Lib.hid (by rw [admB, hb]; rfl)
    clear hb
    go_enter Try.func26, Try.ntmps26
    go_wp2
    have hzW : w.heap.size < (w.alloc (.cells #[.int .i64 s, .int .i64 m] 28)).heap.size := by simp
    have hAW : Below w.heap.size w (w.alloc (.cells #[.int .i64 s, .int .i64 m] 28)) := (Below.refl _ _).alloc (Nat.le_refl _) _
    have c0W : (w.alloc (.cells #[.int .i64 s, .int .i64 m] 28)).cell? ⟨w.heap.size, 0, none⟩ = some (.int .i64 s) := by simp [go_sem]
    have c1W : (w.alloc (.cells #[.int .i64 s, .int .i64 m] 28)).cell? ⟨w.heap.size, 1, none⟩ = some (.int .i64 m) := by simp [go_sem]
    generalize w.alloc (.cells #[.int .i64 s, .int .i64 m] 28) = W at *
    have hx0 := fun x => (grow_cell w.heap.size 0 hzW x).trans c0W
    have hx1 := fun x => (grow_cell w.heap.size 1 hzW x).trans c1W
    refine wp_region_inv (Below W.heap.size W) (grow0 _) (by kernel_rfl) (by kernel_rfl) ?_
    repeat (go_big_quiet_step ((go_at_call 35; with_reducible exact grow_step (HGB.out _))))
    refine wpQuiet_nil ?_
    intro w2 hw'
    have hb2 := grow_of hw'
    clear hw'
    go_wp2
    go_ret
    exact ⟨by rw [HN.out]; rfl, gtr hAW hb2⟩
  · rw [hb] at HGB
    have HN : Hid (admB cs s m p = smallB cs p (20 - s * m)) := Lib.hid (by rw [admB, hb]; rfl)
    obtain ⟨a, b, rfl, rfl, h1, h2, h3, h4, h5⟩ := goodBox_of hb
    have hw1 := wrap_mul (a : Int) (b : Int) (by omega) (by omega) (by omega) (by omega)
    have h5' : (a : Int) * b ≤ 6 := by exact_mod_cast h5
    have h6' : 0 ≤ (a : Int) * b := Int.mul_nonneg (by omega) (by omega)
    clear hb h5
    rcases hs : smallB cs p 20 with _ | _
    · have HN2 : Hid (smallB cs p (20 - (a : Int) * b) = false) := Lib.hid (by
        have hn : ¬ smallB cs p (20 - (a : Int) * b) = true := fun hh => by
          unfold smallB at hh
          simp only [Bool.and_eq_true, decide_eq_true_eq] at hh
          have h20 : smallB cs p 20 = true := by
            unfold smallB
            rw [hh.1, hh.2.1, Bool.true_and, Bool.true_and, decide_eq_true_eq]
            omega
          rw [h20] at hs; cases hs
        simpa using hn)
      clear h5' h6'
      go_enter Try.func26, Try.ntmps26
      go_wp2
      have hbx := bel1 w (.cells #[.int .i64 (a : Int), .int .i64 (b : Int)] 28)
      have hsz : (w.alloc (.cells #[.int .i64 (a : Int), .int .i64 (b : Int)] 28)).heap.size = w.heap.size + 1 := by simp
      have hzW : w.heap.size < (w.alloc (.cells #[.int .i64 (a : Int), .int .i64 (b : Int)] 28)).heap.size := by simp
      have hAW : Below w.heap.size w (w.alloc (.cells #[.int .i64 (a : Int), .int .i64 (b : Int)] 28)) := (Below.refl _ _).alloc (Nat.le_refl _) _
      have c0W : (w.alloc (.cells #[.int .i64 (a : Int), .int .i64 (b : Int)] 28)).cell? ⟨w.heap.size, 0, none⟩ = some (.int .i64 (a : Int)) := by simp [go_sem]
      have c1W : (w.alloc (.cells #[.int .i64 (a : Int), .int .i64 (b : Int)] 28)).cell? ⟨w.heap.size, 1, none⟩ = some (.int .i64 (b : Int)) := by simp [go_sem]
      generalize w.alloc (.cells #[.int .i64 (a : Int), .int .i64 (b : Int)] 28) = W at *
      have HGD := Lib.hid fun x : Wd (Below W.heap.size W) => goodS_any A A' c c' cs p (inst _ x) B (by have := grow_size x; omega) ((h.below hbx hB).below (inst_inv x) (by omega)) ((h'.below hbx hB).below (inst_inv x) (by omega))
      rw [hs] at HGD
      clear hs hsz
      have hx0 := fun x => (grow_cell w.heap.size 0 hzW x).trans c0W
      have hx1 := fun x => (grow_cell w.heap.size 1 hzW x).trans c1W
      refine wp_region_inv (Below W.heap.size W) (grow0 _) (by kernel_rfl) (by kernel_rfl) ?_
      repeat (go_big_quiet_step (first | (go_at_call 35; with_reducible exact grow_step (HGB.out _)) | (go_at_call 45; with_reducible exact grow_step (HGD.out _))))
      refine wpQuiet_nil ?_
      intro w2 hw'
      have hb2 := grow_of hw'
      clear hw'
      go_wp2
      go_ret
      exact ⟨by rw [HN.out, HN2.out]; rfl, gtr hbx hb2⟩
    · have hgh : goodH p := by
        unfold smallB at hs
        simp only [Bool.and_eq_true] at hs
        exact goodHB_of hs.2.1
      have hsm0 : 0 ≤ sm p ∧ sm p ≤ 20 := by
        unfold smallB at hs
        simp only [Bool.and_eq_true, decide_eq_true_eq] at hs
        exact ⟨sm_nonneg fun x hx => (hgh.2.1 x hx).1, hs.2.2⟩
      have HN2 : Hid (smallB cs p (20 - (a : Int) * b) = decide (sm p + (a : Int) * b ≤ 20)) := Lib.hid (by
        unfold smallB at hs ⊢
        simp only [Bool.and_eq_true, decide_eq_true_eq] at hs
        rw [hs.1, hs.2.1, Bool.true_and, Bool.true_and]
        exact decide_eq_decide.2 ⟨fun h => by omega, fun h => by omega⟩)
      have hw3 : IntKind.i64.wrap (sm p + (a : Int) * b) = sm p + (a : Int) * b := by rw [IntKind.wrap_i64]; omega
      clear h5' h6' hsm0
      go_enter Try.func26, Try.ntmps26
      go_wp2
      have hbx := bel1 w (.cells #[.int .i64 (a : Int), .int .i64 (b : Int)] 28)
      have hsz : (w.alloc (.cells #[.int .i64 (a : Int), .int .i64 (b : Int)] 28)).heap.size = w.heap.size + 1 := by simp
      have hzW : w.heap.size < (w.alloc (.cells #[.int .i64 (a : Int), .int .i64 (b : Int)] 28)).heap.size := by simp
      have hAW : Below w.heap.size w (w.alloc (.cells #[.int .i64 (a : Int), .int .i64 (b : Int)] 28)) := (Below.refl _ _).alloc (Nat.le_refl _) _
      have c0W : (w.alloc (.cells #[.int .i64 (a : Int), .int .i64 (b : Int)] 28)).cell? ⟨w.heap.size, 0, none⟩ = some (.int .i64 (a : Int)) := by simp [go_sem]
      have c1W : (w.alloc (.cells #[.int .i64 (a : Int), .int .i64 (b : Int)] 28)).cell? ⟨w.heap.size, 1, none⟩ = some (.int .i64 (b : Int)) := by simp [go_sem]
      generalize w.alloc (.cells #[.int .i64 (a : Int), .int .i64 (b : Int)] 28) = W at *
      have HGD := Lib.hid fun x : Wd (Below W.heap.size W) => goodS_any A A' c c' cs p (inst _ x) B (by have := grow_size x; omega) ((h.below hbx hB).below (inst_inv x) (by omega)) ((h'.below hbx hB).below (inst_inv x) (by omega))
      have HSU := Lib.hid fun x : Wd (Below W.heap.size W) => (sumS_any A' c' p (inst _ x) B ((h'.below hbx hB).below (inst_inv x) (by omega)) hgh).mono fun _ w' ⟨he, hw⟩ => (⟨he, by rw [hw]; exact Below.refl _ _⟩ : _ ∧ Below (inst (Below W.heap.size W) x).heap.size (inst (Below W.heap.size W) x) w')
      rw [hs] at HGD
      clear hs hsz hgh
      generalize sm p = u at *
      have hx0 := fun x => (grow_cell w.heap.size 0 hzW x).trans c0W
      have hx1 := fun x => (grow_cell w.heap.size 1 hzW x).trans c1W
      refine wp_region_inv (Below W.heap.size W) (grow0 _) (by kernel_rfl) (by kernel_rfl) ?_
      repeat (go_big_quiet_step (first | (go_at_call 35; with_reducible exact grow_step (HGB.out _)) | (go_at_call 45; with_reducible exact grow_step (HGD.out _)) | (go_at_call 46; with_reducible exact grow_step (HSU.out _))))
      refine wpQuiet_nil ?_
      intro w2 hw'
      have hb2 := grow_of hw'
      clear hw'
      go_wp2
      go_ret
      exact ⟨by rw [HN.out, HN2.out]; rfl, gtr hbx hb2⟩

theorem admB_of {cs p : List Int} {s m : Int} (h : admB cs s m p = true) : ∃ a b : Nat, s = a ∧ m = b ∧ 1 ≤ a ∧ a ≤ 6 ∧ 1 ≤ b ∧ b ≤ 6 ∧ a * b ≤ 6 ∧ goodCode cs ∧ (∀ x ∈ p, 0 ≤ x) ∧ sm p + (a * b : Nat) ≤ 20 ∧ p.length ≤ 1000 := by
  unfold admB at h
  rw [Bool.and_eq_true] at h
  obtain ⟨h0, h⟩ := h
  obtain ⟨a, b, rfl, rfl, h1, h2, h3, h4, h5⟩ := goodBox_of h0
  unfold smallB at h
  simp only [Bool.and_eq_true, decide_eq_true_eq] at h
  have hgh := goodHB_of h.2.1
  refine ⟨a, b, rfl, rfl, h1, h2, h3, h4, h5, goodCodeB_true.1 h.1, fun x hx => (hgh.2.1 x hx).1, ?_, by have := hgh.1; omega⟩
  have := h.2.2
  rw [Int.natCast_mul]
  omega
end Go.Proofs.Ytbledcogbkeneaa
