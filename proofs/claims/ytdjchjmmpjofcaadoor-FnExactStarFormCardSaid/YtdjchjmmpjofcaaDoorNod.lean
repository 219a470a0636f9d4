/- A star put into the pool: the program's node, by contract. Conditions: none. -/
import Derived.Test.YtdjchjmmpjofcaaDoorPl2
import Derived.Deep.RegionHeld3
import Derived.StillTailTactics
import Derived.Test.YtdjchjmmpjofcaaDoorBits
namespace Go.Proofs.YtdjchjmmpjofcaaDoor
open Go.RowKit Go.Maps
set_option linter.unusedVariables false

theorem make_bytes0 {w : World} {ops : Array Oper} {rest : List Oper} {o : Oper} {a : Act} {Q : Exit → Act → World → Prop} (hg : o.guard = none) (l c : Operand)
    (hop : o.op = Op.makeSlice 64 l c) (n : Nat) (C : Int) (hC : C = (n : Int)) (hl : a.eval l = .int .i64 0) (hc : a.eval c = .int .i64 C) (hb : n ≤ 1000000)
    (hK : ∀ w', Own w' w.heap.size 5 (.slice (some ⟨w.heap.size, 0, none⟩) 0 n) (bcells []) → Below w.heap.size w w' → wpList Tryd.prog ops Q rest (a.put o.dst (.slice (some ⟨w.heap.size, 0, none⟩) 0 n)) w') :
    wpList Tryd.prog ops Q (o :: rest) a w := by
  obtain ⟨i0, hi, hz0, hz1, hz2⟩ := info_parts infoByte
  refine wpList_make_own w hg l c 64 hop w.heap.size 5 i0 (.int .u8 0) 1 Tryd.underlying64 hi hz0 hz1 .i64 .i64 C n hl hc hC (by rw [hz2]; omega) (by unfold maxLen; omega) (Nat.le_refl _) ?_
  intro w' ho hgr
  exact hK w' ho (below_of_grown hgr)

theorem atKey_miss {D : DataW Unit} {k : Lit} {z : DataW Unit} (h : Maps.has D k = false) : D.atKey k z = z := by
  cases D <;> try rfl
  rename_i es
  have h2 : es.find? (fun p => p.1.sameKey k) = none := by
    rw [List.find?_eq_none]
    intro p hp hs
    have h3 : es.any (fun p => p.1.sameKey k) = true := List.any_eq_true.2 ⟨p, hp, hs⟩
    have h : es.any (fun p => p.1.sameKey k) = false := h
    rw [h3] at h
    cases h
  unfold DataW.atKey
  dsimp only
  rw [h2]
theorem look_miss {w : World} {mf n : Nat} {D : DataW Unit} {key : Value} {kl : Lit} (hown : w.ownsMap Tryd.prog 9 (plainElem (H := Unit) Tryd.prog 3) mf n D) (hkey : keyOf Tryd.prog 9 key = some kl) (hm : Maps.has D kl = false) :
    (Instr.lookup 41 (.map (some mf)) key true).run Tryd.prog w = .ok (.tuple #[.int .i64 0, .bool false]) w := by
  obtain ⟨v, ps, hrun, hv⟩ := hown.look_ok keyedS Tryd.underlying41 (zeroInt w) (zd := .lit (.int .i64 0)) (zp := []) (plainElem_int Tryd.underlying3 (by decide)) hkey
  rw [atKey_miss hm] at hv
  obtain ⟨c, rfl, hc, hwc⟩ := plainElem_int_inv Tryd.underlying3 hv
  simp only [Prod.mk.injEq, DataW.lit.injEq, Lit.int.injEq, true_and] at hc
  rw [hrun, hm, ← hc.1]

set_option maxRecDepth 100000 in
set_option maxHeartbeats 6400000 in
theorem node_any (lo p mf k g c : Nat) (vL vR vB : Value) (us vs : List Value) (w : World) (hk : k ≤ 15) (hlo : lo ≤ w.heap.size) (hP : PoolG w lo p mf k k k k vL vR vB us vs)
    (hl : Own w lo 3 (.slice (some ⟨g, 0, none⟩) k c) (ints (rng k))) :
    Calls Tryd.prog 20 #[.pointer (some ⟨p, 0, none⟩), .slice (some ⟨g, 0, none⟩) k c, .slice (some ⟨g, 0, none⟩) k c] w fun e w' => e = .returned (.int .i64 k) ∧ Below lo w w' ∧
      ∃ vL' vR' vB' us' vs', PoolG w' lo p mf (k + 1) (k + 1) (k + 1) (k + 1) vL' vR' vB' us' vs' ∧ ∀ v xs, Own w lo 3 v xs → Fre v vB → (∀ u, u ∈ us → Fre u v) → (∀ u, u ∈ vs → Fre u v) → Own w' lo 3 v xs ∧ Fre v vB' ∧ (∀ u, u ∈ us' → Fre u v) ∧ (∀ u, u ∈ vs' → Fre u v) := by
  have hrl := rng_len k
  have HD1 := Lib.hid (distinct_any g 0 c k w (by omega) (fun i hi => by
    have h0 := hl.rd
    obtain ⟨b, o, hA, -, hc⟩ := h0.at (j := 0) (by rw [ints_len, hrl]; omega)
    injection hA with hA
    injection hA with hA1 hA2
    subst hA1 hA2
    rw [hc i _ (ints_at _ i (by rw [hrl]; exact hi)), gi_rng k i hi]))
  have HD2 := Lib.hid fun W (hb : Below w.heap.size w W) => distinct_any g 0 c k W (by omega) (fun i hi => by
    have h0 := (hl.below hb).rd
    obtain ⟨b, o, hA, -, hc⟩ := h0.at (j := 0) (by rw [ints_len, hrl]; omega)
    injection hA with hA
    injection hA with hA1 hA2
    subst hA1 hA2
    rw [hc i _ (ints_at _ i (by rw [hrl]; exact hi)), gi_rng k i hi])
  have HP := Lib.hid hP
  clear hP hl
  go_enter Tryd.func20, Tryd.ntmps20
  go_wp2_with fail
  ((with_reducible refine HD1.out.mono ?_); rintro e w1 ⟨g1, c1, rfl, ho1, hb1⟩)
  go_wp2_with fail
  ((with_reducible refine (HD2.out w1 hb1).mono ?_); rintro e w2 ⟨g2, c2, rfl, ho2, hb2⟩)
  have hb12 := gtr hb1 hb2
  have hz2 := hb12.size
  have hz1 := hb1.size
  have ho1b := ho1.below hb2
  have hf1 : Fre (.slice (some ⟨g1, 0, none⟩) k c1) vB := .inr fun e => by
    have h1 := (HP.out.B.lt g1 e.symm).2
    have h2 := (ho1.lt g1 rfl).1
    omega
  have hf2 : Fre (.slice (some ⟨g2, 0, none⟩) k c2) vB := .inr fun e => by
    have h1 := (HP.out.B.lt g2 e.symm).2
    have h2 := (ho2.lt g2 rfl).1
    omega
  have HG1 : Hid (w.heap.size ≤ g1) := Lib.hid (ho1.lt g1 rfl).1
  have HG2 : Hid (w.heap.size ≤ g2) := Lib.hid (Nat.le_trans hz1 (ho2.lt g2 rfl).1)
  have HF1 := Lib.hid hf1
  have HF2 := Lib.hid hf2
  clear HD1 HD2 hb1 hb2 ho1 hf1 hf2
  go_wp2_with (refine make_bytes0 rfl _ _ rfl (4 * (k + k) + 1) _ (by omega) rfl rfl (by omega) ?_; intro w3 ho3 hb3)
  have HB3 := Lib.hid hb3
  have HO3 := Lib.hid ho3
  have HO1 := Lib.hid ho1b
  have HO2 := Lib.hid ho2
  have hz3 := hb3.size
  have HP2 := Lib.hid (HP.out.below hb12)
  clear ho3 hb3 ho1b ho2
  go_loopw [7, 8, 30] (fun key born i wr => ∃ (j : Nat) (A' : Option Addr) (c' : Nat) (bs : List UInt8), i = .int .i64 j ∧ j ≤ k ∧ born = .int .i64 j ∧ Hid (bs = kk j) ∧ bs.length ≤ 2 * j ∧ key = .slice A' bs.length c' ∧ Own wr w2.heap.size 5 (.slice A' bs.length c') (bcells bs) ∧ Below w2.heap.size w2 wr) (fun _ _ i _ => k - (intOf i).toNat)
  case atStart => exact ⟨0, _, _, [], rfl, Nat.zero_le _, rfl, Lib.hid rfl, by simp, rfl, HO3.out, HB3.out⟩
  case round =>
    clear HO3 HB3 hz3
    obtain ⟨j, A', c', bs, rfl, hj, rfl, HBS, hbl, rfl, ho, hb⟩ := hrel
    have HO := Lib.hid ho
    have HB := Lib.hid hb
    have hzr := hb.size
    clear ho
    by_cases hlt : j < k
    · have h2 := HP2.out
      obtain ⟨m1, m2, m3, m4, hblk⟩ := h2.blk
      obtain ⟨AB, cB, hvB⟩ := h2.B.form
      rw [ints_len, rng_len] at hvB
      have hat := h2.B
      rw [hvB] at hat
      obtain ⟨gB, rfl, -, -, hgB, hcB, -⟩ := hat.at (by rw [ints_len, rng_len]; omega)
      have hlenB := hat.rd.len
      rw [ints_len, rng_len] at hlenB
      have p1 : w2.cell? ⟨gB, j, none⟩ = some (.int .i64 (j : Int)) := by rw [hcB j _ (ints_at _ j (by rw [rng_len]; exact hlt)), gi_rng k j hlt]
      have p2 : w2.cell? ⟨p, 2, none⟩ = some (.slice (some ⟨gB, 0, none⟩) k cB) := (hblk.cell 2).trans (by rw [← hvB]; rfl)
      obtain ⟨g1', hA1, -, -, hg1, hc1, -⟩ := HO1.out.at (by rw [ints_len, rng_len]; omega)
      injection hA1 with hA1
      injection hA1 with hA1
      subst hA1
      have p3 : w2.cell? ⟨g1, j, none⟩ = some (.int .i64 (j : Int)) := by rw [hc1 j _ (ints_at _ j (by rw [rng_len]; exact hlt)), gi_rng k j hlt]
      have HQ := Lib.hid fun W (h : Below w2.heap.size w2 W) => And.intro ((h.cell (p := ⟨gB, j, none⟩) hgB).trans p1) ((h.cell (p := ⟨p, 2, none⟩) hblk.lt).trans p2)
      have q3 : wr.cell? ⟨g1, j, none⟩ = some (.int .i64 (j : Int)) := (hb.cell (p := ⟨g1, j, none⟩) hg1).trans p3
      have HAP := Lib.hid (appendInt_any A' c' w2.heap.size bs j wr (by omega) (by omega) hzr HO.out)
      have HBS2 : Hid (bs ++ [dgt j] ++ [44] = kk (j + 1)) := Lib.hid (by rw [HBS.out]; rfl)
      clear h2 hblk hcB hat hvB hc1 HBS p1 p2 p3 hg1 hgB
      go_wp2_with (first | (go_at_call 33; (with_reducible refine HAP.out.mono ?_); rintro e w4 ⟨A4, c4, rfl, ho4, hb4⟩; have hz4 := hb4.size) | (at_builtin; refine append_byte rfl _ _ rfl w2.heap.size (.slice A4 (bs.length + 1) c4) (bs ++ [dgt j]) rfl (ho4.below (bel1 _ _)) _ 44 rfl ((Blk.new _ _ _).cell 0) (by simp; omega) (by simp; omega) ?_; intro A5 c5 w5 ho5 hb5 hg5; have hB5 := (hb.trans hb4).trans ((Below.alloc (Below.refl _ _) (by omega) _).trans hb5); have q1 := (HQ.out w5 hB5).1; have q2 := (HQ.out w5 hB5).2))
      have e44 : (bs ++ [dgt j] ++ [44]).length = (bs ++ [dgt j]).length + 1 := by simp
      have HO5 : Hid (Own w5 w2.heap.size 5 (.slice A5 (bs ++ [dgt j] ++ [44]).length c5) (bcells (bs ++ [dgt j] ++ [44]))) := Lib.hid (by rw [e44]; exact ho5)
      clear e44
      clear ho5 ho4 hg5
      go_roundw
      case rel => exact ⟨j + 1, A5, c5, bs ++ [dgt j] ++ [44], by go_num, by omega, by first | go_num | (fail "born"), HBS2, by simp; omega, by simp, HO5.out, hB5⟩
      case measure => simp [intOf]; omega
    · obtain rfl : j = k := by omega
      clear HB
      go_wp2_with (at_builtin; refine append_byte rfl _ _ rfl w2.heap.size (.slice A' bs.length c') bs rfl (HO.out.below (bel1 _ _)) _ 124 rfl ((Blk.new _ _ _).cell 0) (by omega) (by simp; omega) ?_; intro A5 c5 w5 ho5 hb5 hg5; have hB5 := hb.trans ((Below.alloc (Below.refl _ _) (by omega) _).trans hb5))
      have e124 : (bs ++ [124]).length = bs.length + 1 := by simp
      have HO5 : Hid (Own w5 w2.heap.size 5 (.slice A5 (bs ++ [124]).length c5) (bcells (bs ++ [124]))) := Lib.hid (by rw [e124]; exact ho5)
      have HBS5 : Hid (bs ++ [124] = kk j ++ [124] ++ kk 0) := Lib.hid (by rw [HBS.out]; simp [kk])
      rw [← e124]
      have hbl5 : (bs ++ [124]).length ≤ 2 * j + 1 := by omega
      clear ho5 hb5 hg5 e124 HO HBS hbl
      generalize bs ++ [124] = bs5 at *
      have HB5 := Lib.hid hB5
      clear hB5 hb
      go_loopw [7, 8, 55] (fun key born i wr => ∃ (i2 : Nat) (A' : Option Addr) (c' : Nat) (bs : List UInt8), i = .int .i64 i2 ∧ i2 ≤ j ∧ born = .int .i64 j ∧ Hid (bs = kk j ++ [124] ++ kk i2) ∧ bs.length ≤ 2 * j + 1 + 2 * i2 ∧ key = .slice A' bs.length c' ∧ Own wr w2.heap.size 5 (.slice A' bs.length c') (bcells bs) ∧ Below w2.heap.size w2 wr) (fun _ _ i _ => j - (intOf i).toNat)
      case atStart => exact ⟨0, _, _, bs5, rfl, Nat.zero_le _, rfl, HBS5, by omega, rfl, HO5.out, HB5.out⟩
      case round =>
        clear HO5 HB5 HBS5 hbl5 hzr hj hlt
        obtain ⟨i2, A', c', bs, rfl, hi, rfl, HBS, hbl, rfl, ho, hb⟩ := hrel
        have HO := Lib.hid ho
        have hzr := hb.size
        clear ho
        by_cases hlt : i2 < j
        · have h2 := HP2.out
          obtain ⟨m1, m2, m3, m4, hblk⟩ := h2.blk
          obtain ⟨AB, cB, hvB⟩ := h2.B.form
          rw [ints_len, rng_len] at hvB
          have hat := h2.B
          rw [hvB] at hat
          obtain ⟨gB, rfl, -, -, hgB, hcB, -⟩ := hat.at (by rw [ints_len, rng_len]; omega)
          have hlenB := hat.rd.len
          rw [ints_len, rng_len] at hlenB
          have p1 : w2.cell? ⟨gB, i2, none⟩ = some (.int .i64 (i2 : Int)) := by rw [hcB i2 _ (ints_at _ i2 (by rw [rng_len]; exact hlt)), gi_rng j i2 hlt]
          have p2 : w2.cell? ⟨p, 2, none⟩ = some (.slice (some ⟨gB, 0, none⟩) j cB) := (hblk.cell 2).trans (by rw [← hvB]; rfl)
          obtain ⟨g2', hA1, -, -, hg1, hc1, -⟩ := HO2.out.at (by rw [ints_len, rng_len]; omega)
          injection hA1 with hA1
          injection hA1 with hA1
          subst hA1
          have p3 : w2.cell? ⟨g2, i2, none⟩ = some (.int .i64 (i2 : Int)) := by rw [hc1 i2 _ (ints_at _ i2 (by rw [rng_len]; exact hlt)), gi_rng j i2 hlt]
          have HQ := Lib.hid fun W (h : Below w2.heap.size w2 W) => And.intro ((h.cell (p := ⟨gB, i2, none⟩) hgB).trans p1) ((h.cell (p := ⟨p, 2, none⟩) hblk.lt).trans p2)
          have q3 : wr.cell? ⟨g2, i2, none⟩ = some (.int .i64 (i2 : Int)) := (hb.cell (p := ⟨g2, i2, none⟩) hg1).trans p3
          have HAP := Lib.hid (appendInt_any A' c' w2.heap.size bs i2 wr (by omega) (by omega) hzr HO.out)
          have HBS2 : Hid (bs ++ [dgt i2] ++ [44] = kk j ++ [124] ++ kk (i2 + 1)) := Lib.hid (by rw [HBS.out, kk]; simp)
          clear h2 hblk hcB hat hvB hc1 HBS p1 p2 p3 hg1 hgB
          go_wp2_with (first | (go_at_call 33; (with_reducible refine HAP.out.mono ?_); rintro e w4 ⟨A4, c4, rfl, ho4, hb4⟩; have hz4 := hb4.size) | (at_builtin; refine append_byte rfl _ _ rfl w2.heap.size (.slice A4 (bs.length + 1) c4) (bs ++ [dgt i2]) rfl (ho4.below (bel1 _ _)) _ 44 rfl ((Blk.new _ _ _).cell 0) (by simp; omega) (by simp; omega) ?_; intro A6 c6 w6 ho6 hb6 hg6; have hB6 := (hb.trans hb4).trans ((Below.alloc (Below.refl _ _) (by omega) _).trans hb6); have q1 := (HQ.out w6 hB6).1; have q2 := (HQ.out w6 hB6).2))
          have e44 : (bs ++ [dgt i2] ++ [44]).length = (bs ++ [dgt i2]).length + 1 := by simp
          have HO6 : Hid (Own w6 w2.heap.size 5 (.slice A6 (bs ++ [dgt i2] ++ [44]).length c6) (bcells (bs ++ [dgt i2] ++ [44]))) := Lib.hid (by rw [e44]; exact ho6)
          clear e44 ho6 ho4 hg6
          go_roundw
          case rel => exact ⟨i2 + 1, A6, c6, bs ++ [dgt i2] ++ [44], by go_num, by omega, by first | go_num | (fail "born"), HBS2, by simp; omega, by simp, HO6.out, hB6⟩
          case measure => simp [intOf]; omega
        · obtain rfl : i2 = j := by omega
          have hPr := HP2.out.below hb
          obtain ⟨AL, cL, hvL⟩ := hPr.L.form
          obtain ⟨AR, cR, hvR⟩ := hPr.R.form
          obtain ⟨AB, cB, hvB⟩ := hPr.B.form
          rw [hPr.ul] at hvL
          rw [hPr.vl] at hvR
          rw [ints_len, rng_len] at hvB
          subst hvL hvR hvB
          obtain ⟨m1, m2, m3, m4, hblk⟩ := hPr.blk
          obtain ⟨D, hD, hDk⟩ := hPr.F
          have q3 : wr.cell? ⟨p, 3, none⟩ = some (.map (some mf)) := hblk.cell 3
          have hBS : bs = kT i2 := HBS.out
          have HKEY : Hid (keyOf Tryd.prog 9 (.string (str bs)) = some (.string bs)) := Lib.hid (WideMaps.keyOf_string_mk (P := Tryd.prog) (k := 9) Tryd.underlying9 (s := str bs) (by rw [hBS]; unfold maxLen; show (kT i2).length ≤ _; rw [kT_len]; omega))
          have HMISS : Hid (Maps.has D (.string bs) = false) := Lib.hid (by
            rw [Bool.eq_false_iff]
            intro hh
            obtain ⟨j, hj, e⟩ := hDk bs hh
            have := kT_inj (hBS.symm.trans e)
            omega)
          have HPR := Lib.hid hPr
          have HBSE := Lib.hid hBS
          have HDK := Lib.hid hDk
          clear hBS hPr hDk HP2 HBS hlt hi HP hrl
          go_wp2_with fail
          refine wp_region_noPanic ?_
          refine wp_region_held_drew (S := fun W' => W'.cell? ⟨p, 3, none⟩ = some (.map (some mf)) ∧ Own W' w2.heap.size 5 (.slice A' bs.length c') (bcells bs) ∧ W'.ownsMap Tryd.prog 9 (plainElem (H := Unit) Tryd.prog 3) mf i2 D) (by kernel_rfl) ⟨q3, HO.out, hD⟩ (fun hHeld => ?_)
          refine wpAnyH_take (i := 0) (oi := ⟨some 76, _, _, _, _, _⟩) (v := ?vta0) rfl (by kernel_rfl) (by kernel_rfl) (by kernel_rfl) (fun _ _ _ h => h) (Or.inl ⟨by kernel_rfl, ?hya0⟩) (by assumption) ?_
          case hya0 => (intro wh hSw; (try dsimp only at hSw); go_simp; try with_reducible rfl)
          simp only [Act.put, List.setIfInBounds_toArray, List.set_cons_zero, List.set_cons_succ]
          refine wpAnyH_take (i := 1) (oi := ⟨some 77, _, _, _, _, _⟩) (v := ?vta1) rfl (by kernel_rfl) (by kernel_rfl) (by kernel_rfl) (fun _ _ _ h => h) (Or.inl ⟨by kernel_rfl, ?hya1⟩) (by assumption) ?_
          case hya1 => (intro wh hSw; (try dsimp only at hSw); go_simp; try with_reducible rfl)
          simp only [Act.put, List.setIfInBounds_toArray, List.set_cons_zero, List.set_cons_succ]
          refine wpAnyH_take (i := 2) (oi := ⟨some 78, _, _, _, _, _⟩) (v := ?vta2) rfl (by kernel_rfl) (by kernel_rfl) (by kernel_rfl) (fun _ _ _ h => h) (Or.inl ⟨by kernel_rfl, ?hya2⟩) (by assumption) ?_
          case hya2 => (intro wh hSw; (try dsimp only at hSw); go_simp; try with_reducible rfl)
          simp only [Act.put, List.setIfInBounds_toArray, List.set_cons_zero, List.set_cons_succ]
          refine wpAnyH_take (i := 3) (oi := ⟨some 79, _, _, _, _, _⟩) (v := ?vta3) rfl (by kernel_rfl) (by kernel_rfl) (by kernel_rfl) (fun _ _ _ h => h) (Or.inl ⟨by kernel_rfl, ?hya3⟩) (by assumption) ?_
          case hya3 => (intro wh hSw; (try dsimp only at hSw); go_simp; try with_reducible rfl)
          simp only [Act.put, List.setIfInBounds_toArray, List.set_cons_zero, List.set_cons_succ]
          refine wpAnyH_take (i := 4) (oi := ⟨some 80, _, _, _, _, _⟩) (v := ?vta4) rfl (by kernel_rfl) (by kernel_rfl) (by kernel_rfl) (fun _ _ _ h => h) (Or.inl ⟨by kernel_rfl, ?hya4⟩) (by assumption) ?_
          case hya4 => (intro wh hSw; (try dsimp only at hSw); go_simp; try with_reducible rfl)
          simp only [Act.put, List.setIfInBounds_toArray, List.set_cons_zero, List.set_cons_succ]
          refine wpAnyH_take (i := 5) (oi := ⟨some 81, _, _, _, _, _⟩) (v := .string (str bs)) rfl (by kernel_rfl) (by kernel_rfl) (by kernel_rfl) (fun _ _ _ h => h) (Or.inl ⟨by kernel_rfl, ?hya5⟩) (by assumption) ?_
          case hya5 =>
            intro wh hSw
            have e := own_back hSw.2.1
            clear hSw
            go_simp
          simp only [Act.put, List.setIfInBounds_toArray, List.set_cons_zero, List.set_cons_succ]
          refine wpAnyH_take (i := 6) (oi := ⟨some 82, _, _, _, _, _⟩) (v := .tuple #[.int .i64 0, .bool false]) rfl (by kernel_rfl) (by kernel_rfl) (by kernel_rfl) (fun _ _ _ h => h) (Or.inl ⟨by kernel_rfl, ?hya6⟩) (by assumption) ?_
          case hya6 =>
            intro wh hSw
            have e := look_miss hSw.2.2 HKEY.out HMISS.out
            clear hSw
            go_simp
          simp only [Act.put, List.setIfInBounds_toArray, List.set_cons_zero, List.set_cons_succ]
          refine wpAnyH_take (i := 7) (oi := ⟨some 75, _, _, _, _, _⟩) (v := ?vta7) rfl (by kernel_rfl) (by kernel_rfl) (by kernel_rfl) (fun _ _ _ h => h) (Or.inl ⟨by kernel_rfl, ?hya7⟩) (by assumption) ?_
          case hya7 => (intro wh hSw; (try dsimp only at hSw); go_simp; try with_reducible rfl)
          simp only [Act.put, List.setIfInBounds_toArray, List.set_cons_zero, List.set_cons_succ]
          refine wpAnyH_take (i := 8) (oi := ⟨some 83, _, _, _, _, _⟩) (v := ?vta8) rfl (by kernel_rfl) (by kernel_rfl) (by kernel_rfl) (fun _ _ _ h => h) (Or.inl ⟨by kernel_rfl, ?hya8⟩) (by assumption) ?_
          case hya8 => (intro wh hSw; (try dsimp only at hSw); go_simp; try with_reducible rfl)
          simp only [Act.put, List.setIfInBounds_toArray, List.set_cons_zero, List.set_cons_succ]
          refine wpAnyH_take (i := 9) (oi := ⟨some 84, _, _, _, _, _⟩) (v := ?vta9) rfl (by kernel_rfl) (by kernel_rfl) (by kernel_rfl) (fun _ _ _ h => h) (Or.inl ⟨by kernel_rfl, ?hya9⟩) (by assumption) ?_
          case hya9 => (intro wh hSw; (try dsimp only at hSw); go_simp; try with_reducible rfl)
          simp only [Act.put, List.setIfInBounds_toArray, List.set_cons_zero, List.set_cons_succ]
          refine wpAnyH_take (i := 10) (oi := ⟨some 13, _, _, _, _, _⟩) (v := ?vta10) rfl (by kernel_rfl) (by kernel_rfl) (by kernel_rfl) (fun _ _ _ h => h) (Or.inl ⟨by kernel_rfl, ?hya10⟩) (by assumption) ?_
          case hya10 => (intro wh hSw; (try dsimp only at hSw); go_simp; try with_reducible rfl)
          simp only [Act.put, List.setIfInBounds_toArray, List.set_cons_zero, List.set_cons_succ]
          refine wpAnyH_take (i := 11) (oi := ⟨some 14, _, _, _, _, _⟩) (v := ?vta11) rfl (by kernel_rfl) (by kernel_rfl) (by kernel_rfl) (fun _ _ _ h => h) (Or.inl ⟨by kernel_rfl, ?hya11⟩) (by assumption) ?_
          case hya11 => (intro wh hSw; (try dsimp only at hSw); go_simp; try with_reducible rfl)
          simp only [Act.put, List.setIfInBounds_toArray, List.set_cons_zero, List.set_cons_succ]
          refine wpAnyH_done (by kernel_rfl) ?_ _
          refine NoPanic.normal ?_
          have HBd := Lib.hid (bdrew hb 1)
          have HPd := Lib.hid (HPR.out.below (gdrew (a := wr)))
          have HOd := Lib.hid (HO.out.below (gdrew (a := wr)))
          have HDd : Hid (wr.drew.ownsMap Tryd.prog 9 (plainElem (H := Unit) Tryd.prog 3) mf i2 D) := hD
          clear hHeld hb HO hD hblk q3 HPR hzr
          change Hid (Below w2.heap.size w2 wr.drew) at HBd
          generalize wr.drew = W0 at *
          obtain ⟨n1, n2, n3, n4, hbk0⟩ := HPd.out.blk
          have q2 : W0.cell? ⟨p, 2, none⟩ = some (.slice AB i2 cB) := hbk0.cell 2
          have q3 : W0.cell? ⟨p, 3, none⟩ = some (.map (some mf)) := hbk0.cell 3
          have e := own_back (HOd.out.below (gdrew (a := W0)))
          go_wp2_with fail
          refine wp_region_tail 7 (by kernel_rfl) (by kernel_rfl) ?_
          simp only [List.take_succ_cons, List.take_zero, List.drop_succ_cons, List.drop_zero]
          repeat (go_big_quiet_step (fail))
          refine wpQuiet_nil ?_
          have hkey := HKEY.out
          have hval : plainElem (H := Unit) Tryd.prog 3 (.int .i64 (i2 : Int)) = some (.lit (.int .i64 (i2 : Int)), []) := plainElem_int Tryd.underlying3 (by simp [Lit.wf, IntKind.min, IntKind.max, IntKind.signed, IntKind.bits]; omega)
          have hDd : W0.drew.ownsMap Tryd.prog 9 (plainElem (H := Unit) Tryd.prog 3) mf i2 D := HDd.out
          have hnl : i2 < maxLen := by unfold maxLen; omega
          have hz0 := HBd.out.size
          have HW0 := Lib.hid (show Below w2.heap.size w2 W0.drew from HBd.out.trans ((gdrew (a := W0)).mono hz0))
          have HPdd := Lib.hid (HPd.out.below (gdrew (a := W0)))
          clear e q2 q3 hbk0 HPd HBd HOd HDd
          generalize W0.drew = W1 at *
          refine wpList_mapUpdate_own _ rfl _ _ _ 41 rfl 9 3 keyedS Tryd.underlying41 _ mf _ D rfl hDd hnl _ _ _ rfl rfl hkey _ [] hval ?_
          intro w6 ho6 hg6
          have hzW := HW0.out.size
          rw [HBSE.out] at ho6
          obtain ⟨hP6, hI6, hB6⟩ := HPdd.out.put hg6 (by omega) (FindM.put hDd.isMap HDK.out _ ho6)
          have hu1 := hI6 _ _ _ ((HO1.out.below HW0.out).le (base' := lo) (by omega))
          have hu2 := hI6 _ _ _ ((HO2.out.below HW0.out).le (base' := lo) (by omega))
          have HPASS := Lib.hid fun v xs (hv : Own w lo 3 v xs) => hI6 _ _ _ ((hv.below hb12).below HW0.out)
          have HB6 := Lib.hid (((hb12.mono hlo).trans (HW0.out.mono (by omega))).trans hB6)
          have hz6 : lo ≤ w6.heap.size := by have := HB6.out.size; omega
          have hul := hP6.ul
          have hvl := hP6.vl
          obtain ⟨d1, d2, d3, d4, hbk6⟩ := hP6.blk
          have a60 : w6.cell? ⟨p, 0, none⟩ = some (.slice AL i2 cL) := hbk6.cell 0
          have HP6 := Lib.hid hP6
          have HU1 := Lib.hid hu1
          have HU2 := Lib.hid hu2
          have HBK6 := Lib.hid hbk6
          clear hP6 hI6 hB6 ho6 hg6 hu1 hu2 HBSE HDK HPdd HW0 hDd hkey hval HKEY HMISS hbk6 hz0 hzW
          go_wp2_with (first
            | (at_builtin; refine pool_appendL rfl _ _ rfl lo p mf i2 i2 i2 (i2 + 1) _ _ _ _ _ HP6.out hz6 rfl (.slice (some ⟨g1, 0, none⟩) i2 c1) rfl HU1.out HF1.out _ rfl rfl (by omega) ?_; intro A7 c7 w7 hP7 hI7 hB7 a70 a71 a72 f70; have HP7 := Lib.hid hP7; have HI7 := Lib.hid hI7; have HB7 := Lib.hid hB7; have hz7 := Nat.le_trans hz6 HB7.out.size; clear hP7 hI7 hB7)
            | (at_builtin; refine pool_appendR rfl _ _ rfl lo p mf (i2 + 1) i2 i2 (i2 + 1) _ _ _ _ _ HP7.out hz7 rfl (.slice (some ⟨g2, 0, none⟩) i2 c2) rfl (HI7.out _ _ HU2.out) HF2.out _ (by simp) rfl (by omega) ?_; intro A8 c8 w8 hP8 hI8 hB8 a80 a81 a82 f81; have HP8 := Lib.hid hP8; have HI8 := Lib.hid hI8; have HB8 := Lib.hid hB8; have hz8 := Nat.le_trans hz7 HB8.out.size; clear hP8 hI8 hB8)
            | (at_builtin; refine pool_appendB rfl _ _ rfl lo p mf (i2 + 1) (i2 + 1) i2 (i2 + 1) _ _ _ _ _ HP8.out hz8 rfl _ (by simp) rfl (by omega) ?_; intro A9 c9 w9 hP9 hI9 hB9 a90 a91 a92 f92; have HP9 := Lib.hid hP9; have HI9 := Lib.hid hI9; have HB9 := Lib.hid hB9; clear hP9 hI9 hB9))
          go_ret
          refine ⟨rfl, HB6.out.trans (HB7.out.trans (HB8.out.trans HB9.out)), _, _, _, _, _, HP9.out, fun v xs hv hf hus hvs => ?_⟩
          obtain ⟨k1, k2⟩ := HI9.out _ _ (HI8.out _ _ (HI7.out _ _ (HPASS.out _ _ hv))) hf
          refine ⟨k1, k2, fun u hu => ?_, fun u hu => ?_⟩
          · rcases List.mem_append.1 hu with hu | hu
            · exact hus u hu
            · rw [List.mem_singleton.1 hu]
              exact .inr fun e => by have := (hv.lt g1 e.symm).2; have := HG1.out; omega
          · rcases List.mem_append.1 hu with hu | hu
            · exact hvs u hu
            · rw [List.mem_singleton.1 hu]
              exact .inr fun e => by have := (hv.lt g2 e.symm).2; have := HG2.out; omega
end Go.Proofs.YtdjchjmmpjofcaaDoor
