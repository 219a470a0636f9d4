/- The laws' helpers on forms of stars: eqForm, markForm, heldForm, by contract. Conditions: none. -/
import Derived.Test.YtdjchjmmpjofcaaDoorFrN
import Derived.Test.YtdjchjmmpjofcaaDoorSl
import Derived.Test.YtdjchjmmpjofcaaDoorBits
import Derived.Test.YtdjchjmmpjofcaaDoorPl0
namespace Go.Proofs.YtdjchjmmpjofcaaDoor
open Go.RowKit Go.Maps
set_option linter.unusedVariables false

theorem FrN.cells {w : World} {lo n c : Nat} {A : Option Addr} {cs : List Value} {xss : List (List Int)} (h : FrN w lo (.slice A n c) n cs cs (xss.map ints)) (hx : xss.length = n * 2) (i : Nat) (hi : i < n) :
    ∃ g A1 c1 A2 c2, A = some ⟨g, 0, none⟩ ∧ lo ≤ g ∧ g < w.heap.size ∧ w.cell? ⟨g, i * 2, none⟩ = some (.slice A1 (gl xss (i * 2)).length c1) ∧ w.cell? ⟨g, i * 2 + 1, none⟩ = some (.slice A2 (gl xss (i * 2 + 1)).length c2) ∧ Own w lo 3 (.slice A1 (gl xss (i * 2)).length c1) (ints (gl xss (i * 2))) ∧ Own w lo 3 (.slice A2 (gl xss (i * 2 + 1)).length c2) (ints (gl xss (i * 2 + 1))) ∧ cs[i * 2]? = some (.slice A1 (gl xss (i * 2)).length c1) ∧ cs[i * 2 + 1]? = some (.slice A2 (gl xss (i * 2 + 1)).length c2) := by
  obtain ⟨g, rfl, h1, h2, h3, -⟩ := ownsK_at h.own (by omega)
  obtain ⟨A1, c1, k1, k2⟩ := h.node (i * 2) (by omega)
  obtain ⟨A2, c2, k3, k4⟩ := h.node (i * 2 + 1) (by omega)
  exact ⟨g, A1, c1, A2, c2, rfl, h1, h2, (h3 _ (by omega)).trans k1, (h3 _ (by omega)).trans k3, k2, k4, k1, k3⟩
/-- A slice of n nodes that is read: the options of stars. -/
def RdN (w : World) (B : Nat) (A : Option Addr) (n c : Nat) : Prop :=
  n ≤ c ∧ c ≤ maxLen ∧ ∀ i, i < n → ∃ g A1 c1 A2 c2, A = some ⟨g, 0, none⟩ ∧ g < B ∧ w.cell? ⟨g, i * 2, none⟩ = some (.slice A1 i c1) ∧ w.cell? ⟨g, i * 2 + 1, none⟩ = some (.slice A2 i c2) ∧ RdI w B A1 c1 (rng i) ∧ RdI w B A2 c2 (rng i)
theorem FrN.rdN {w : World} {lo n c : Nat} {A : Option Addr} {cs : List Value} (h : FrN w lo (.slice A n c) n cs cs ((nodesC n).map ints)) : RdN w w.heap.size A n c := by
  refine ⟨(ownsK_cap h.own).1, (ownsK_cap h.own).2, fun i hi => ?_⟩
  obtain ⟨g, A1, c1, A2, c2, h0, h1, h2, k1, k2, k3, k4, -, -⟩ := h.cells (nodesC_len n) i hi
  obtain ⟨e1, e2⟩ := gl_nodesC n i hi
  rw [e1, rng_len] at k1 k3
  rw [e2, rng_len] at k2 k4
  exact ⟨g, A1, c1, A2, c2, h0, h2, k1, k2, k3.rd, k4.rd⟩
theorem RdN.below {w w' : World} {B B' n c : Nat} {A : Option Addr} (h : RdN w B A n c) (hb : Below B' w w') (hB : B ≤ B') : RdN w' B A n c :=
  ⟨h.1, h.2.1, fun i hi => by
    obtain ⟨g, A1, c1, A2, c2, h0, h2, k1, k2, k3, k4⟩ := h.2.2 i hi
    exact ⟨g, A1, c1, A2, c2, h0, h2, (hb.cell (p := ⟨g, i * 2, none⟩) (Nat.lt_of_lt_of_le h2 hB)).trans k1, (hb.cell (p := ⟨g, i * 2 + 1, none⟩) (Nat.lt_of_lt_of_le h2 hB)).trans k2, RdI.below k3 hb hB, RdI.below k4 hb hB⟩⟩
theorem RdN.more {w : World} {B B' n c : Nat} {A : Option Addr} (h : RdN w B A n c) (hB : B ≤ B') : RdN w B' A n c :=
  ⟨h.1, h.2.1, fun i hi => by
    obtain ⟨g, A1, c1, A2, c2, h0, h2, k1, k2, k3, k4⟩ := h.2.2 i hi
    exact ⟨g, A1, c1, A2, c2, h0, Nat.lt_of_lt_of_le h2 hB, k1, k2, k3.more hB, k4.more hB⟩⟩

set_option maxHeartbeats 800000 in
theorem eqNode_any (A1 A2 A3 A4 : Option Addr) (c1 c2 c3 c4 i : Nat) (w : World) (B : Nat) (hB : B ≤ w.heap.size) (h1 : RdI w B A1 c1 (rng i)) (h2 : RdI w B A2 c2 (rng i)) (h3 : RdI w B A3 c3 (rng i)) (h4 : RdI w B A4 c4 (rng i)) :
    Calls Tryd.prog 21 #[.agg #[.slice A1 i c1, .slice A2 i c2], .agg #[.slice A3 i c3, .slice A4 i c4]] w fun e w' => e = .returned (.bool true) ∧ Below w.heap.size w w' := by
  have HE : Hid (∀ W A A' c c', Below w.heap.size w W → RdI w B A c (rng i) → RdI w B A' c' (rng i) → Calls Tryd.prog 34 #[.slice A i c, .slice A' i c'] W fun e w' => e = .returned (.bool true) ∧ Below W.heap.size W w') := Lib.hid fun W A A' c c' hW ha hb => by
    have h := eqIntS_any A A' c c' (rng i) (rng i) W B (Nat.le_trans hB hW.size) (RdI.below ha hW hB) (RdI.below hb hW hB)
    rw [rng_len] at h
    simpa using h
  have H1 := Lib.hid h1
  have H2 := Lib.hid h2
  have H3 := Lib.hid h3
  have H4 := Lib.hid h4
  clear h1 h2 h3 h4
  go_enter Tryd.func21, Tryd.ntmps21
  go_wp2_with fail
  obtain ⟨W, hW⟩ : ∃ W, W = (w.alloc (.cells #[.slice A1 i c1, .slice A2 i c2] 40)).alloc (.cells #[.slice A3 i c3, .slice A4 i c4] 40) := ⟨_, rfl⟩
  have i0 : Blk W w.heap.size 40 #[.slice A1 i c1, .slice A2 i c2] := by rw [hW]; exact (Blk.new w _ _).alloc _
  have i1 : Blk W (w.heap.size + 1) 40 #[.slice A3 i c3, .slice A4 i c4] := by rw [hW]; exact Blk.new_at (w.alloc _) _ _ (by simp)
  have hAW : Below w.heap.size w W := by rw [hW]; exact bel2 _ _ _
  rw [← hW]
  clear hW
  ((with_reducible refine (HE.out W A1 A3 c1 c3 hAW H1.out H3.out).mono ?_); rintro e w1 ⟨rfl, hb1⟩)
  have j0 := i0.below hb1 i0.lt
  have j1 := i1.below hb1 i1.lt
  have q0 : w1.cell? ⟨w.heap.size, 1, none⟩ = some (.slice A2 i c2) := j0.cell 1
  have q1 : w1.cell? ⟨w.heap.size + 1, 1, none⟩ = some (.slice A4 i c4) := j1.cell 1
  have hB1 := gtr hAW hb1
  go_wp2_with (go_at_call 34; (with_reducible refine (HE.out w1 A2 A4 c2 c4 hB1 H2.out H4.out).mono ?_); rintro e w2 ⟨rfl, hb2⟩)
  go_ret
  exact ⟨rfl, gtr hB1 hb2⟩

set_option maxHeartbeats 800000 in
theorem eqNodeS_any (A A' : Option Addr) (c c' n : Nat) (w : World) (B : Nat) (hn : n ≤ 20) (hB : B ≤ w.heap.size) (h : RdN w B A n c) (h' : RdN w B A' n c') :
    Calls Tryd.prog 14 #[.slice A n c, .slice A' n c'] w fun e w' => e = .returned (.bool true) ∧ Below w.heap.size w w' := by
  have h1 := h.1
  have h2 := h'.1
  have H := Lib.hid h
  have H' := Lib.hid h'
  have hne : ((n : Int) != (n : Int)) = false := by simp
  clear h h'
  go_enter Tryd.func14, Tryd.ntmps14
  go_wp2
  go_loopw [5] (fun i wr => ∃ k : Nat, i = .int .i64 k ∧ k ≤ n ∧ Below w.heap.size w wr) (fun i _ => n - (intOf i).toNat)
  case atStart => exact ⟨0, rfl, Nat.zero_le _, Below.refl _ _⟩
  case round =>
    obtain ⟨k, rfl, hk, hb⟩ := hrel
    by_cases hlt : k < n
    · obtain ⟨g, A1, c1, A2, c2, rfl, -, k1, k2, r1, r2⟩ := (H.out.below hb hB).2.2 k hlt
      obtain ⟨g', A3, c3, A4, c4, rfl, -, k3, k4, r3, r4⟩ := (H'.out.below hb hB).2.2 k hlt
      have HE := Lib.hid (eqNode_any A1 A2 A3 A4 c1 c2 c3 c4 k wr.drew B (Nat.le_trans hB hb.size) (RdI.below r1 (gdrew (a := wr)) (Nat.le_trans hB hb.size)) (RdI.below r2 (gdrew (a := wr)) (Nat.le_trans hB hb.size)) (RdI.below r3 (gdrew (a := wr)) (Nat.le_trans hB hb.size)) (RdI.below r4 (gdrew (a := wr)) (Nat.le_trans hB hb.size)))
      clear r1 r2 r3 r4
      go_wp2_with fail
      refine wp_region_tail 8 (by kernel_rfl) (by kernel_rfl) ?_
      simp only [List.take_succ_cons, List.take_zero, List.drop_succ_cons, List.drop_zero]
      repeat (go_big_quiet_step (fail))
      refine wpQuiet_nil ?_
      go_wp2_with (go_at_call 21; (with_reducible refine HE.out.mono ?_); rintro e w2 ⟨rfl, hb2⟩)
      go_roundw
      case rel => exact ⟨k + 1, by go_num, by omega, gtr hb (gtr (gdrew (a := wr)) hb2)⟩
      case measure => simp [intOf]; omega
    · obtain rfl : k = n := by omega
      go_wp2
      go_ret
      exact ⟨rfl, hb⟩
set_option maxHeartbeats 800000 in
theorem eqForm_any (A A' : Option Addr) (c c' n : Nat) (w : World) (B : Nat) (hn : n ≤ 20) (hB : B ≤ w.heap.size) (h : RdN w B A n c) (h' : RdN w B A' n c') :
    Calls Tryd.prog 6 #[.agg #[.slice A n c], .agg #[.slice A' n c']] w fun e w' => e = .returned (.bool true) ∧ Below w.heap.size w w' := by
  have hb := bel2 w (.cells #[.slice A n c] 24) (.cells #[.slice A' n c'] 24)
  have HE := Lib.hid (eqNodeS_any A A' c c' n ((w.alloc (.cells #[.slice A n c] 24)).alloc (.cells #[.slice A' n c'] 24)) B hn (Nat.le_trans hB hb.size) (h.below hb hB) (h'.below hb hB))
  have HB := Lib.hid hb
  clear h h' hb
  go_enter Tryd.func6, Tryd.ntmps6
  go_wp2_with (go_at_call 14; (with_reducible refine HE.out.mono ?_); rintro e w2 ⟨rfl, hb2⟩)
  go_ret
  exact ⟨rfl, gtr HB.out hb2⟩

theorem neIF : 3 ≠ 24 := by decide
/-- Every cell that holds a form stays as it is. -/
def KeptF (w w' : World) : Prop := ∀ g xs, Blk w g 24 xs → Blk w' g 24 xs
theorem KeptF.refl (w : World) : KeptF w w := fun _ _ h => h
theorem KeptF.trans {w w' w'' : World} (h : KeptF w w') (h' : KeptF w' w'') : KeptF w w'' := fun g xs k => h' g xs (h g xs k)
theorem KeptF.own {w w' : World} {b : Nat} {v : Value} {l : List Value} (ho : Own w b 3 v l) (hg : w.grownBy w' v.ownBlock) : KeptF w w' := fun _ _ h => h.grown hg (fun e => neBlk ho h neIF e.symm)
/-- The marks of the rows of n nodes. -/
theorem off_step (xss : List (List Int)) (i : Nat) : off xss (i * 2 + 1) = off xss (i * 2) + (gl xss (i * 2)).length ∧ off xss ((i + 1) * 2) = off xss (i * 2 + 1) + (gl xss (i * 2 + 1)).length := ⟨rfl, by rw [show (i + 1) * 2 = i * 2 + 1 + 1 by omega]; rfl⟩
theorem mk_step (k : Int) (xss : List (List Int)) (j : Nat) : mk k xss (j + 1) = (mk k xss j).set j (numRow (k + off xss j) (gl xss j).length) := rfl

set_option maxHeartbeats 1600000 in
theorem markNodeS_any (A : Option Addr) (c n : Nat) (xss : List (List Int)) (k : Int) (w : World) (lo : Nat) (cs : List Value) (hn : n ≤ 20) (hx : xss.length = n * 2) (hlo : lo ≤ w.heap.size) (hk : 0 ≤ k) (hb : k + off xss (n * 2) ≤ 1000000000000000) (h : FrN w lo (.slice A n c) n cs cs (xss.map ints)) :
    Calls Tryd.prog 15 #[.slice A n c, .int .i64 k] w fun e w' => e = .returned (.int .i64 (k + off xss (n * 2))) ∧ FrN w' lo (.slice A n c) n cs cs ((mk k xss (n * 2)).map ints) ∧ Below lo w w' ∧ KeptF w w' := by
  have h1 := (ownsK_cap h.own).1
  have h2 := (ownsK_cap h.own).2
  have hoff : Hid (∀ j, j < n → off xss ((j + 1) * 2) ≤ off xss (n * 2)) := Lib.hid fun j hj => off_le xss (show (j + 1) * 2 ≤ n * 2 by omega)
  have HX := Lib.hid hx
  have H := Lib.hid h
  clear h hx
  go_enter Tryd.func15, Tryd.ntmps15
  go_wp2
  go_loopw [1, 5] (fun k' i wr => ∃ j : Nat, i = .int .i64 j ∧ k' = .int .i64 (k + off xss (j * 2)) ∧ j ≤ n ∧ FrN wr lo (.slice A n c) n cs cs ((mk k xss (j * 2)).map ints) ∧ Below lo w wr ∧ KeptF w wr) (fun _ i _ => n - (intOf i).toNat)
  case atStart => exact ⟨0, rfl, by simp [off], Nat.zero_le _, H.out, Below.refl _ _, KeptF.refl _⟩
  case round =>
    clear H
    obtain ⟨j, rfl, rfl, hj, hN, hbl, hkf⟩ := hrel
    have HN := Lib.hid hN
    by_cases hlt : j < n
    · have hml : (mk k xss (j * 2)).length = n * 2 := by rw [mk_len]; exact HX.out
      obtain ⟨g, A1, c1, A2, c2, rfl, -, hgw, k1, k2, o1, o2, s1, s2⟩ := hN.cells hml j hlt
      have e1 : gl (mk k xss (j * 2)) (j * 2) = gl xss (j * 2) := by rw [gl_mk k xss _ _ (by rw [HX.out]; omega), if_neg (by omega)]
      have e2 : gl (mk k xss (j * 2)) (j * 2 + 1) = gl xss (j * 2 + 1) := by rw [gl_mk k xss _ _ (by rw [HX.out]; omega), if_neg (by omega)]
      rw [e1] at k1 o1 s1
      rw [e2] at k2 o2 s2
      obtain ⟨t1, t2⟩ := off_step xss j
      have hot := hoff.out j hlt
      have HM1 := Lib.hid (markRow_any A1 c1 (gl xss (j * 2)) (k + off xss (j * 2)) wr lo o1 (by omega) (by omega))
      have hlen1 : (ints (numRow (k + off xss (j * 2)) (gl xss (j * 2)).length)).length = (gc ((mk k xss (j * 2)).map ints) (j * 2)).length := by rw [gc_ints, e1, ints_len, numRow_len, ints_len]
      have HK1 : Hid (∀ W, wr.grownBy W (Value.slice A1 (gl xss (j * 2)).length c1).ownBlock → KeptF w W) := Lib.hid fun W hg => hkf.trans (KeptF.own o1 hg)
      clear hN k2 o1 o2 s2 hkf
      go_wp2_with fail
      ((with_reducible refine HM1.out.mono ?_); rintro e w2 ⟨rfl, ho2, hg2⟩)
      have hN2 := HN.out.mark (j := j * 2) (by rw [List.length_map, hml]; omega) s1 hlen1 ho2 hg2
      rw [map_set_ints, ← mk_step] at hN2
      have hml2 : (mk k xss (j * 2 + 1)).length = n * 2 := by rw [mk_len]; exact HX.out
      obtain ⟨g', A3, c3, A4, c4, hA4, -, -, -, k4, -, o4, -, s4⟩ := hN2.cells hml2 j hlt
      injection hA4 with hA4
      injection hA4 with hA4
      subst hA4
      have e4 : gl (mk k xss (j * 2 + 1)) (j * 2 + 1) = gl xss (j * 2 + 1) := by rw [gl_mk k xss _ _ (by rw [HX.out]; omega), if_neg (by omega)]
      rw [e4] at k4 o4 s4
      have hz2 := hg2.size
      have hbl2 : Below lo wr w2 := (Below.refl _ _).grown hg2 (by have := hbl.size; omega) (fun q hq => ((HN.out.frc.2.1 (j * 2) (by rw [List.length_map, hml]; omega)).elim fun B1 hB1 => hB1.elim fun d1 hd1 => by
        have e := hd1.1.symm.trans s1
        injection e with e
        rw [e] at hd1
        exact (hd1.2.lt q hq).1))
      have hlen2 : (ints (numRow (k + off xss (j * 2 + 1)) (gl xss (j * 2 + 1)).length)).length = (gc ((mk k xss (j * 2 + 1)).map ints) (j * 2 + 1)).length := by rw [gc_ints, e4, ints_len, numRow_len, ints_len]
      have hoI : (k + off xss (j * 2) : Int) + ((gl xss (j * 2)).length : Int) = k + off xss (j * 2 + 1) := by rw [t1]; omega
      have HM2 := Lib.hid (markRow_any A4 c4 (gl xss (j * 2 + 1)) (k + off xss (j * 2 + 1)) w2 lo o4 (by omega) (by omega))
      have HK2 : Hid (∀ W, w2.grownBy W (Value.slice A4 (gl xss (j * 2 + 1)).length c4).ownBlock → KeptF w W) := Lib.hid fun W hg => (HK1.out w2 hg2).trans (KeptF.own o4 hg)
      have HN2 := Lib.hid hN2
      have HBL2 := Lib.hid (hbl.trans hbl2)
      have hoI2 : Hid ((k + off xss (j * 2 + 1) : Int) + ((gl xss (j * 2 + 1)).length : Int) = k + off xss ((j + 1) * 2)) := Lib.hid (by rw [t2]; omega)
      clear hN2 ho2 hg2 o4 hbl2 HM1 hlen1 HN t1 t2 hot hbl
      rw [hoI]
      clear hoI
      go_wp2_with fail
      ((with_reducible refine HM2.out.mono ?_); rintro e w3 ⟨rfl, ho3, hg3⟩)
      have hN3 := HN2.out.mark (j := j * 2 + 1) (by rw [List.length_map, hml2]; omega) s4 hlen2 ho3 hg3
      rw [map_set_ints, ← mk_step] at hN3
      have hbl3 : Below lo w2 w3 := (Below.refl _ _).grown hg3 (by have := HBL2.out.size; omega) (fun q hq => ((HN2.out.frc.2.1 (j * 2 + 1) (by rw [List.length_map, hml2]; omega)).elim fun B1 hB1 => hB1.elim fun d1 hd1 => by
        have e := hd1.1.symm.trans s4
        injection e with e
        rw [e] at hd1
        exact (hd1.2.lt q hq).1))
      have HK3 := Lib.hid (HK2.out w3 hg3)
      have HN3 := Lib.hid hN3
      have HBL3 := Lib.hid (HBL2.out.trans hbl3)
      rw [hoI2.out]
      clear hN3 ho3 hg3 hbl3 HM2 hlen2 HN2 HK1 HK2
      go_wp2_with fail
      go_roundw
      case rel => exact ⟨j + 1, by go_num, rfl, by omega, by rw [show (j + 1) * 2 = j * 2 + 1 + 1 by omega]; exact HN3.out, HBL3.out, HK3.out⟩
      case measure => simp [intOf]; omega
    · obtain rfl : j = n := by omega
      clear hN
      go_wp2
      go_ret
      exact ⟨rfl, HN.out, hbl, hkf⟩

set_option maxHeartbeats 1600000 in
theorem heldNodeS_any (A : Option Addr) (c n : Nat) (xss : List (List Int)) (k : Int) (w : World) (lo : Nat) (cs : List Value) (hn : n ≤ 20) (hx : xss.length = n * 2) (hk : 0 ≤ k) (hb : k + off xss (n * 2) ≤ 1000000000000000) (h : FrN w lo (.slice A n c) n cs cs ((mk k xss (n * 2)).map ints)) :
    Calls Tryd.prog 16 #[.slice A n c, .int .i64 k] w fun e w' => e = .returned (.int .i64 (k + off xss (n * 2))) ∧ w = w' := by
  have h1 := (ownsK_cap h.own).1
  have h2 := (ownsK_cap h.own).2
  have hoff : Hid (∀ j, j < n → off xss ((j + 1) * 2) ≤ off xss (n * 2)) := Lib.hid fun j hj => off_le xss (show (j + 1) * 2 ≤ n * 2 by omega)
  have HX := Lib.hid hx
  have H := Lib.hid h
  clear h hx
  go_enter Tryd.func16, Tryd.ntmps16
  go_wp2
  go_loopw [1, 5] (fun k' i wr => ∃ j : Nat, i = .int .i64 j ∧ k' = .int .i64 (k + off xss (j * 2)) ∧ j ≤ n ∧ wr = w) (fun _ i _ => n - (intOf i).toNat)
  case atStart => exact ⟨0, rfl, by simp [off], Nat.zero_le _, rfl⟩
  case round =>
    obtain ⟨j, rfl, rfl, hj, hw⟩ := hrel
    have hw2 := hw.symm
    subst hw2
    clear hw
    by_cases hlt : j < n
    · have hml : (mk k xss (n * 2)).length = n * 2 := by rw [mk_len]; exact HX.out
      obtain ⟨g, A1, c1, A2, c2, rfl, -, hgw, k1, k2, o1, o2, s1, s2⟩ := H.out.cells hml j hlt
      have e1 : gl (mk k xss (n * 2)) (j * 2) = numRow (k + off xss (j * 2)) (gl xss (j * 2)).length := by rw [gl_mk k xss _ _ (by rw [HX.out]; omega), if_pos (by omega)]
      have e2 : gl (mk k xss (n * 2)) (j * 2 + 1) = numRow (k + off xss (j * 2 + 1)) (gl xss (j * 2 + 1)).length := by rw [gl_mk k xss _ _ (by rw [HX.out]; omega), if_pos (by omega)]
      rw [e1, numRow_len] at k1 o1
      rw [e2, numRow_len] at k2 o2
      obtain ⟨t1, t2⟩ := off_step xss j
      have hot := hoff.out j hlt
      have HM1 := Lib.hid (heldRow_any A1 c1 (gl xss (j * 2)).length (k + off xss (j * 2)) w w.heap.size o1.rd (by omega) (by omega))
      have HM2 := Lib.hid (heldRow_any A2 c2 (gl xss (j * 2 + 1)).length (k + off xss (j * 2 + 1)) w w.heap.size o2.rd (by omega) (by omega))
      have hoI : Hid ((k + off xss (j * 2) : Int) + ((gl xss (j * 2)).length : Int) = k + off xss (j * 2 + 1)) := Lib.hid (by rw [t1]; omega)
      have hoI2 : Hid ((k + off xss (j * 2 + 1) : Int) + ((gl xss (j * 2 + 1)).length : Int) = k + off xss ((j + 1) * 2)) := Lib.hid (by rw [t2]; omega)
      have hp1 : ¬ (k + off xss (j * 2 + 1) : Int) < 0 := by omega
      have hp2 : ¬ (k + off xss ((j + 1) * 2) : Int) < 0 := by omega
      clear o1 o2 s1 s2 e1 e2 t1 t2 hot
      go_wp2_with fail
      ((with_reducible refine HM1.out.mono ?_); rintro e w2 ⟨rfl, rfl⟩)
      rw [hoI.out]
      go_wp2_with fail
      ((with_reducible refine HM2.out.mono ?_); rintro e w2 ⟨rfl, rfl⟩)
      rw [hoI2.out]
      go_wp2_with fail
      go_roundw
      case rel => exact ⟨j + 1, by go_num, rfl, by omega, by first | rfl | trivial⟩
      case measure => simp [intOf]; omega
    · obtain rfl : j = n := by omega
      go_wp2
      go_ret
      exact ⟨rfl, rfl⟩
set_option maxHeartbeats 400000 in
theorem markForm_any (A : Option Addr) (c n : Nat) (xss : List (List Int)) (k : Int) (w : World) (lo : Nat) (cs : List Value) (hn : n ≤ 20) (hx : xss.length = n * 2) (hlo : lo ≤ w.heap.size) (hk : 0 ≤ k) (hb : k + off xss (n * 2) ≤ 1000000000000000) (h : FrN w lo (.slice A n c) n cs cs (xss.map ints)) :
    Calls Tryd.prog 7 #[.agg #[.slice A n c], .int .i64 k] w fun e w' => e = .returned (.int .i64 (k + off xss (n * 2))) ∧ FrN w' lo (.slice A n c) n cs cs ((mk k xss (n * 2)).map ints) ∧ Below lo w w' ∧ KeptF w w' := by
  have hbe := bel1 w (.cells #[.slice A n c] 24)
  have HM := Lib.hid (markNodeS_any A c n xss k (w.alloc (.cells #[.slice A n c] 24)) lo cs hn hx (Nat.le_trans hlo hbe.size) hk hb (h.below hbe))
  have HB := Lib.hid (hbe.mono hlo)
  clear h hbe hx
  go_enter Tryd.func7, Tryd.ntmps7
  go_wp2_with (go_at_call 15; (with_reducible refine HM.out.mono ?_); rintro e w2 ⟨rfl, hN2, hb2, hk2⟩)
  go_ret
  exact ⟨rfl, hN2, HB.out.trans hb2, fun g xs k => hk2 g xs (k.alloc _)⟩
set_option maxHeartbeats 400000 in
theorem heldForm_any (A : Option Addr) (c n : Nat) (xss : List (List Int)) (k : Int) (w : World) (lo : Nat) (cs : List Value) (hn : n ≤ 20) (hx : xss.length = n * 2) (hk : 0 ≤ k) (hb : k + off xss (n * 2) ≤ 1000000000000000) (h : FrN w lo (.slice A n c) n cs cs ((mk k xss (n * 2)).map ints)) :
    Calls Tryd.prog 8 #[.agg #[.slice A n c], .int .i64 k] w fun e w' => e = .returned (.int .i64 (k + off xss (n * 2))) ∧ Below w.heap.size w w' := by
  have hbe := bel1 w (.cells #[.slice A n c] 24)
  have HM := Lib.hid (heldNodeS_any A c n xss k (w.alloc (.cells #[.slice A n c] 24)) lo cs hn hx hk hb (h.below hbe))
  have HB := Lib.hid hbe
  have hp : ¬ (k + off xss (n * 2) : Int) < 0 := by omega
  clear h hbe hx
  go_enter Tryd.func8, Tryd.ntmps8
  go_wp2_with (go_at_call 16; (with_reducible refine HM.out.mono ?_); rintro e w2 ⟨rfl, rfl⟩)
  go_ret
  exact ⟨rfl, HB.out⟩
end Go.Proofs.YtdjchjmmpjofcaaDoor
