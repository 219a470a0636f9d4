/- StarForm of the reference, by contract. Conditions: none. -/
import Derived.Test.YtdjchjmmpjofcaaDoorEqN
import Derived.Test.YtdjchjmmpjofcaaDoorPl1
namespace Go.Proofs.YtdjchjmmpjofcaaDoor
open Go.RowKit Go.Maps
set_option linter.unusedVariables false

set_option maxHeartbeats 800000 in
theorem l1In_any (a : Int) (w : World) : Calls Tryd.prog 9 #[.int .i64 a, .int .i64 0, .int .i64 15] w fun e w' => e = .returned (.bool (decide (0 ≤ a) && decide (a ≤ 15))) ∧ w' = w := by
  by_cases h0 : 0 ≤ a
  · by_cases h1 : a ≤ 15
    · go_enter Tryd.func9, Tryd.ntmps9
      go_wp2
      go_ret
      exact ⟨congrArg (fun b => Ending.returned (.bool b)) (by first | exact (decide_eq_true (by omega)).symm | (simp; omega)), rfl⟩
    · go_enter Tryd.func9, Tryd.ntmps9
      go_wp2
      go_ret
      exact ⟨congrArg (fun b => Ending.returned (.bool b)) (by first | exact (decide_eq_false (by omega)).symm | (simp; omega)), rfl⟩
  · go_enter Tryd.func9, Tryd.ntmps9
    go_wp2
    go_ret
    exact ⟨congrArg (fun b => Ending.returned (.bool b)) (by first | exact (decide_eq_false (by omega)).symm | (simp; omega)), rfl⟩
set_option maxHeartbeats 800000 in
theorem l1Own_any (A : Option Addr) (c k : Nat) (w : World) (B : Nat) (hk : k ≤ 20) (hB : B ≤ w.heap.size) (h : RdI w B A c (rng k)) :
    Calls Tryd.prog 17 #[.slice A k c] w fun e w' => ∃ A' c', e = .returned (.slice A' k c') ∧ Own w' w.heap.size 3 (.slice A' k c') (ints (rng k)) ∧ Below w.heap.size w w' := by
  have hbe := bel1 w (.cells #[] 3)
  have HE := Lib.hid (Own.empty w 3 3 w.heap.size (Nat.le_refl _))
  have HR := Lib.hid (RdI.below h hbe hB)
  have HB := Lib.hid hbe
  clear h hbe
  go_enter Tryd.func17, Tryd.ntmps17
  go_wp2_with (at_builtin; refine wpList_append_rd rfl _ _ 37 3 (.int .i64 0) 8 rfl Tryd.underlying37 infoInt rfl (by omega) w.heap.size (.slice (some ⟨w.heap.size, 0, none⟩) 0 0) [] rfl HE.out B A k c (ints (rng k)) rfl (by rw [ints_len, rng_len]) HR.out (fun u hu => by simp [ints] at hu; obtain ⟨y, -, rfl⟩ := hu; rfl) (by rw [ints_len, rng_len]; simp; omega) (by simp) ?_; intro A5 c5 w5 ho5 hb5 hg5)
  go_ret
  have hl : ([] : List Value).length + (ints (rng k)).length = k := by rw [ints_len, rng_len]; simp
  have hl2 : (ints (rng k)).length = k := by rw [ints_len, rng_len]
  rw [hl] at ho5
  exact ⟨A5, c5, by show Ending.returned (.slice A5 (ints (rng k)).length c5) = _; rw [hl2], by simpa using ho5, HB.out.trans hb5⟩

theorem neNF : 40 ≠ 24 := by decide
theorem neIN : 3 ≠ 40 := by decide
theorem neBlkK {w : World} {b g k n : Nat} {E T : TypeId} {v : Value} {xs : List Value} {cs : Array Value} (h : w.ownsRow b E k v n xs) (hb : Blk w g T cs) (hE : E ≠ T) : v.ownBlock ≠ some g := by
  rcases h.2 with ⟨hv, _⟩ | ⟨g', cap, cur, hv, _, hg, _⟩
  · rw [hv]; exact fun e => by cases e
  · rw [hv]
    intro e
    have e : g' = g := by injection e
    subst e
    have hb : w.heap[g']? = some (.cells cs T (0, 0)) := hb
    rw [hg] at hb
    injection hb with hb
    injection hb with _ h2 _
    exact hE h2
theorem FrN.keptBlk {w w' : World} {lo n g : Nat} {T : TypeId} {v : Value} {cs rows : List Value} {css : List (List Value)} {xs : Array Value} (h : FrN w lo v n cs rows css) (hb : Blk w g T xs) (hE1 : 40 ≠ T) (hE2 : 3 ≠ T) (hg : w.grownBy w' (some g)) : FrN w' lo v n cs rows css :=
  ⟨World.ownsRow.kept h.own hg (.inr (neBlkK h.own hb hE1)), h.frc.keep fun _ _ _ _ k => k.grown hg (.inr (neBlkK k hb hE2)), h.sep⟩
theorem FrN.keptL {w w' : World} {lo n b : Nat} {v l : Value} {cs rows xs : List Value} {css : List (List Value)} (h : FrN w lo v n cs rows css) (hl : Own w b 3 l xs) (hf : ∀ u, u ∈ rows → Fre u l) (hg : w.grownBy w' l.ownBlock) : FrN w' lo v n cs rows css :=
  ⟨World.ownsRow.kept h.own hg (neTK h.own hl neIN.symm), h.frc.keep fun i u _ hi k => k.grown hg (hf u (List.mem_of_getElem? hi)), h.sep⟩

set_option maxRecDepth 100000 in
set_option maxHeartbeats 6400000 in
theorem l8Star_any (n : Nat) (w : World) (hn : n ≤ 15) :
    Calls Tryd.prog 10 #[.int .i64 (n : Int)] w fun e w' => ∃ A c, e = .returned (.agg #[.slice A (n + 1) c]) ∧ (∃ cs, FrN w' w.heap.size (.slice A (n + 1) c) (n + 1) cs cs ((nodesC (n + 1)).map ints)) ∧ Below w.heap.size w w' := by
  have HOW := Lib.hid fun (A : Option Addr) (c k : Nat) (W : World) (hk : k ≤ 20) (h : Rd W W.heap.size A c (ints (rng k))) => l1Own_any A c k W W.heap.size hk (Nat.le_refl _) h
  go_enter Tryd.func10, Tryd.ntmps10
  go_wp2_with fail
  obtain ⟨V, hV⟩ : ∃ V, V = (((w.alloc (.cells #[.slice none 0 0] 24)).alloc (.cells #[] 40)).alloc (.cells #[.slice (some ⟨w.heap.size + 1, 0, none⟩) 0 0] 24)).alloc (.cells #[] 3) := ⟨_, rfl⟩
  obtain ⟨bf, hbf⟩ : ∃ bf, bf = w.heap.size + 1 + 1 := ⟨_, rfl⟩
  have v0 : Blk V w.heap.size 24 #[.slice none 0 0] := by rw [hV]; exact (((Blk.new w _ _).alloc _).alloc _).alloc _
  have v1 : Blk V (w.heap.size + 1) 40 #[] := by rw [hV]; exact ((Blk.new_at (w.alloc _) _ _ (by simp)).alloc _).alloc _
  have v2 : Blk V bf 24 #[.slice (some ⟨w.heap.size + 1, 0, none⟩) 0 0] := by rw [hV, hbf]; exact (Blk.new_at ((w.alloc _).alloc _) _ _ (by simp)).alloc _
  have v3 : Blk V (bf + 1) 3 #[] := by rw [hV, hbf]; exact Blk.new_at (((w.alloc _).alloc _).alloc _) _ _ (by simp)
  have hbV : Below w.heap.size w V := by rw [hV]; exact (bel3 w _ _ _).alloc (by simp; omega) _
  have hzV : w.heap.size + 4 ≤ V.heap.size := by rw [hV]; simp
  have hbf1 : w.heap.size + 2 ≤ bf := by omega
  have hbf2 : ¬ bf = w.heap.size := by omega
  rw [← hV]
  try rw [← hbf]
  have HNV : Hid (FrN V (w.heap.size + 1) (.slice (some ⟨w.heap.size + 1, 0, none⟩) 0 0) 0 [] [] (([] : List (List Int)).map ints)) := Lib.hid ⟨⟨rfl, Or.inr ⟨w.heap.size + 1, 0, #[], rfl, Nat.le_refl _, v1, Nat.le_refl _, by unfold maxLen; omega, by simp, by simp⟩⟩, ⟨rfl, fun i hi => by simp at hi, fun i j u u' g hi => by simp at hi⟩, fun i u g hi => by simp at hi⟩
  have HLV : Hid (Own V (w.heap.size + 1) 3 (.slice (some ⟨bf + 1, 0, none⟩) 0 0) (ints (rng 0))) := Lib.hid (Own.of_blk v3 (by omega))
  have HV0 := Lib.hid v0
  have HV2 := Lib.hid v2
  have HBV := Lib.hid hbV
  clear hV v0 v1 v2 v3 hbV
  have hbf3 := Lib.hid hbf
  clear hbf
  go_loopw [4, 5] (fun x i wr => ∃ (k cl c2n : Nat) (Al A2n : Option Addr) (cs : List Value), i = .int .i64 k ∧ k ≤ n + 1 ∧ x = .slice Al k cl ∧ Own wr (w.heap.size + 1) 3 (.slice Al k cl) (ints (rng k)) ∧ (Value.slice Al k cl).ownBlock ≠ none ∧ Blk wr bf 24 #[.slice A2n k c2n] ∧ Blk wr w.heap.size 24 #[.slice none 0 0] ∧ FrN wr (w.heap.size + 1) (.slice A2n k c2n) k cs cs ((nodesC k).map ints) ∧ (∀ u, u ∈ cs → Fre u (.slice Al k cl)) ∧ Below w.heap.size w wr ∧ w.heap.size + 4 ≤ wr.heap.size) (fun _ i _ => n + 1 - (intOf i).toNat)
  case atStart => exact ⟨0, _, _, _, _, [], rfl, by omega, rfl, HLV.out, fun e => (by cases e), HV2.out, HV0.out, HNV.out, fun u hu => (by cases hu), HBV.out, hzV⟩
  case round =>
    clear HNV HLV HV0 HV2 HBV hzV
    obtain ⟨k, cl, c2n, Al, A2n, cs, rfl, hk, rfl, hL, hLN, hBF, hB0, hN, hFR, hBW, hzr4⟩ := hrel
    have HL := Lib.hid hL
    have HLN := Lib.hid hLN
    have HBF := Lib.hid hBF
    have HB0 := Lib.hid hB0
    have HN := Lib.hid hN
    have HFR := Lib.hid hFR
    have HBW := Lib.hid hBW
    have hzr := hBW.size
    have y0 : wr.cell? ⟨bf, 0, none⟩ = some (.slice A2n k c2n) := hBF.cell 0
    by_cases hlt : k ≤ n
    · have hltI : (k : Int) ≤ (n : Int) := by omega
      clear hL hLN hBF hB0 hN hFR hBW
      go_wp2_with fail
      refine wp_region_noPanic ?_
      refine wp_region_held_drew (S := fun _ => True) (by kernel_rfl) trivial (fun hHeld => ?_)
      have gd : Below wr.heap.size wr wr.drew := gdrew (a := wr)
      refine wpAnyH_take (i := 0) (oi := ⟨some 14, _, _, _, _, _⟩) (v := ?vtz0) rfl (by kernel_rfl) (by kernel_rfl) (by kernel_rfl) (fun _ _ _ h => h) (Or.inl ⟨by kernel_rfl, ?hyz0⟩) (by assumption) ?_
      case hyz0 => (intro wh hSw; (try dsimp only at hSw); go_simp; try with_reducible rfl)
      simp only [Act.put, List.setIfInBounds_toArray, List.set_cons_zero, List.set_cons_succ]
      refine wpAnyH_take (i := 2) (oi := ⟨some 16, _, _, _, _, _⟩) (v := ?vtz2) rfl (by kernel_rfl) (by kernel_rfl) (by kernel_rfl) (fun _ _ _ h => h) (Or.inl ⟨by kernel_rfl, ?hyz2⟩) (by assumption) ?_
      case hyz2 => (intro wh hSw; (try dsimp only at hSw); go_simp; try with_reducible rfl)
      simp only [Act.put, List.setIfInBounds_toArray, List.set_cons_zero, List.set_cons_succ]
      refine wpAnyH_take (i := 4) (oi := ⟨some 18, _, _, _, _, _⟩) (v := ?vtz4) rfl (by kernel_rfl) (by kernel_rfl) (by kernel_rfl) (fun _ _ _ h => h) (Or.inl ⟨by kernel_rfl, ?hyz4⟩) (by assumption) ?_
      case hyz4 => (intro wh hSw; (try dsimp only at hSw); go_simp; try with_reducible rfl)
      simp only [Act.put, List.setIfInBounds_toArray, List.set_cons_zero, List.set_cons_succ]
      refine wpAnyH_ready (rs := [1, 3]) (by kernel_rfl) (by simp) ?_
      refine AllReadyH.cons (o := _) rfl (fun K hK => ?_) (AllReadyH.cons (o := _) rfl (fun K hK => ?_) AllReadyH.nil)
      · go_simp
        refine hK.out _ _ trivial (fun _ => ?_)
        clear hK K
        try simp only [Act.put]
        refine wpAnyH_ready (rs := [3]) (by kernel_rfl) (by simp) ?_
        refine AllReadyH.cons (o := _) rfl (fun K hK => ?_) AllReadyH.nil
        go_simp
        (go_at_call 17; (with_reducible refine (HOW.out Al cl k _ (by omega) (HL.out.below gd).rd).mono ?_); rintro e w1 ⟨A1, c1, rfl, ho1, hb1⟩)
        have g1 := gtr gd hb1
        have y1 : w1.cell? ⟨bf, 0, none⟩ = some (.slice A2n k c2n) := HBF.out.below g1 HBF.out.lt |>.cell 0
        dsimp only
        refine hK.out _ _ trivial (fun _ => ?_)
        clear hK K
        try simp only [Act.put]
        refine wpAnyH_ready (rs := [5]) (by kernel_rfl) (by simp) ?_
        refine AllReadyH.cons (o := _) rfl (fun K hK => ?_) AllReadyH.nil
        go_simp
        (go_at_call 17; (with_reducible refine (HOW.out Al cl k _ (by omega) (HL.out.below g1).rd).mono ?_); rintro e w2 ⟨A2, c2, rfl, ho2, hb2⟩)
        have g2 := gtr g1 hb2
        have y2 : w2.cell? ⟨bf, 0, none⟩ = some (.slice A2n k c2n) := HBF.out.below g2 HBF.out.lt |>.cell 0
        dsimp only
        refine hK.out _ _ trivial (fun _ => ?_)
        clear hK K
        try simp only [Act.put]
        have hN1 := HN.out.below gd
        have hN2 := hN1.add (by have := gd.size; omega) hb1 ho1
        have hN3 := hN2.add (by have := g1.size; omega) hb2 ho2
        have HN3 := Lib.hid hN3
        have HU1 := Lib.hid (show wr.heap.size ≤ (wr.drew).heap.size ∧ ∀ g, (Value.slice A1 k c1).ownBlock = some g → wr.heap.size ≤ g from ⟨gd.size, fun g hg => Nat.le_trans gd.size (ho1.lt g hg).1⟩)
        have HU2 := Lib.hid (show ∀ g, (Value.slice A2 k c2).ownBlock = some g → wr.heap.size ≤ g from fun g hg => Nat.le_trans g1.size (ho2.lt g hg).1)
        have hone1 : (Value.slice A1 k c1).oneCell' = true := rfl
        clear hN1 hN2 hN3 ho1 ho2 hb1 hb2
        refine wpAnyH_take (i := 6) (oi := ⟨some 20, _, _, _, _, _⟩) (v := ?vta6) rfl (by kernel_rfl) (by kernel_rfl) (by kernel_rfl) (fun _ _ _ h => h) (Or.inl ⟨by kernel_rfl, ?hya6⟩) (by assumption) ?_
        case hya6 => (intro wh hSw; (try dsimp only at hSw); go_simp; try with_reducible rfl)
        simp only [Act.put, List.setIfInBounds_toArray, List.set_cons_zero, List.set_cons_succ]
        refine wpAnyH_ready (rs := [7]) (by kernel_rfl) (by simp) ?_
        refine AllReadyH.cons (o := _) rfl (fun K hK => ?_) AllReadyH.nil
        go_simp
        refine hK.out _ _ trivial (fun _ => ?_)
        clear hK K
        try simp only [Act.put]
        refine wpAnyH_ready (rs := [8]) (by kernel_rfl) (by simp) ?_
        refine AllReadyH.cons (o := _) rfl (fun K hK => ?_) AllReadyH.nil
        refine step_append_kat (by rfl) (.tmp 15) (.tmp 21) 22 40 (.agg #[.slice none 0 0, .slice none 0 0]) 2 48 (by rfl) Tryd.underlying22 infoNode rfl (by omega) (by omega) (w.heap.size + 1) (.slice A2n k c2n) k cs (by rfl) (ownsK_below HN3.out.own (bel1 _ _)) _ #[.slice A1 k c1, .slice A2 k c2] (by rfl) (Blk.new_at _ _ _ (by simp)) rfl (fun u hu => by simp at hu; rcases hu with rfl | rfl <;> rfl) (by omega) (by have := g2.size; simp; omega) ?_
        intro A7 c7 w7 ho7 hb7 hg7 hp7
        have hba := bel1 w2 (.cells #[.slice A1 k c1, .slice A2 k c2] 40)
        have i7 := (HBF.out.below (gtr g2 hba) HBF.out.lt).grown hg7 (fun e => neBlkK (ownsK_below HN3.out.own hba) (HBF.out.below (gtr g2 hba) HBF.out.lt) neNF e.symm)
        have j7 := (HB0.out.below (gtr g2 hba) HB0.out.lt).grown hg7 (fun e => neBlkK (ownsK_below HN3.out.own hba) (HB0.out.below (gtr g2 hba) HB0.out.lt) neNF e.symm)
        have hl7 := (HL.out.below (gtr g2 hba)).grown hg7 (neTK (HL.out.below (gtr g2 hba)) (ownsK_below HN3.out.own hba) neIN)
        have hN7 := FrN.grow HN3.out hba ho7 hg7 hp7
        have y7 : w7.cell? ⟨bf, 0, none⟩ = some (.slice A2n k c2n) := i7.cell 0
        have yf7 : w7.frozen? ⟨bf, 0, none⟩ = false := i7.frozen 0
        have hz7 : wr.heap.size ≤ w7.heap.size := by have := g2.size; have := hba.size; have := hb7.size; omega
        have hB7 : Below w.heap.size w w7 := ((HBW.out.trans (g2.mono hzr)).trans (hba.mono (by have := g2.size; omega))).trans (hb7.mono (by omega))
        try dsimp only
        refine hK.out _ _ trivial (fun _ => ?_)
        clear hK K
        try simp only [Act.put]
        refine wpAnyH_take (i := 9) (oi := ⟨some 23, _, _, _, _, _⟩) (v := ?vta9) rfl (by kernel_rfl) (by kernel_rfl) (by kernel_rfl) (fun _ _ _ h => h) (Or.inl ⟨by kernel_rfl, ?hya9⟩) (by assumption) ?_
        case hya9 => (intro wh hSw; (try dsimp only at hSw); go_simp; try with_reducible rfl)
        simp only [Act.put, List.setIfInBounds_toArray]
        refine wpAnyH_ready (rs := [10]) (by kernel_rfl) (by simp) ?_
        refine AllReadyH.cons (o := _) rfl (fun K hK => ?_) AllReadyH.nil
        go_simp
        refine hK.out _ _ trivial (fun _ => ?_)
        clear hK K
        try simp only [Act.put]
        refine wpAnyH_done (by kernel_rfl) ?_ _
        refine NoPanic.normal ?_
        have hS7 := grown_set w7 bf 0 (.slice A7 (k + 1) c7)
        have HN8 : Hid (FrN (w7.setCell ⟨bf, 0, none⟩ (.slice A7 (k + 1) c7)) (w.heap.size + 1) (.slice A7 (k + 1) c7) (k + 1) (cs ++ [.slice A1 k c1] ++ [.slice A2 k c2]) (cs ++ [.slice A1 k c1] ++ [.slice A2 k c2]) ((nodesC (k + 1)).map ints)) := Lib.hid (by
          have h := hN7.keptBlk i7 neNF neIF hS7
          have e : cs ++ #[Value.slice A1 k c1, Value.slice A2 k c2].toList = cs ++ [.slice A1 k c1] ++ [.slice A2 k c2] := by simp
          rw [e] at h
          rw [nodesC, List.map_append, List.map_append]
          exact h)
        have HL8 := Lib.hid (hl7.grown hS7 (.inr (neBlk hl7 i7 neIF)))
        have HB08 := Lib.hid (j7.grown hS7 (by intro e; injection e with e; omega))
        have HBF8 := Lib.hid (i7.set 0 (.slice A7 (k + 1) c7))
        have HBW8 := Lib.hid (hB7.setCell (p := ⟨bf, 0, none⟩) (by show w.heap.size ≤ bf; omega) (.slice A7 (k + 1) c7))
        have HFR8 : Hid (∀ u, u ∈ cs ++ [.slice A1 k c1] ++ [.slice A2 k c2] → Fre u (.slice Al k cl)) := Lib.hid fun u hu => by
          rcases List.mem_append.1 hu with hu | hu
          · rcases List.mem_append.1 hu with hu | hu
            · exact HFR.out u hu
            · rw [List.mem_singleton.1 hu]
              exact .inr fun e => by
                by_cases h0 : (Value.slice A1 k c1).ownBlock = none
                · rw [h0] at e
                  exact HLN.out e.symm
                · obtain ⟨g, hg⟩ := Option.ne_none_iff_exists'.1 h0
                  have h1 := HU1.out.2 g hg
                  have h2 := (HL.out.lt g (by rw [← e]; exact hg)).2
                  omega
          · rw [List.mem_singleton.1 hu]
            exact .inr fun e => by
              by_cases h0 : (Value.slice A2 k c2).ownBlock = none
              · rw [h0] at e
                exact HLN.out e.symm
              · obtain ⟨g, hg⟩ := Option.ne_none_iff_exists'.1 h0
                have h1 := HU2.out g hg
                have h2 := (HL.out.lt g (by rw [← e]; exact hg)).2
                omega
        have hz8 : wr.heap.size ≤ (w7.setCell ⟨bf, 0, none⟩ (.slice A7 (k + 1) c7)).heap.size := by simpa using hz7
        clear hS7 hN7 hl7 i7 j7 y7 yf7 hB7 ho7 hb7 hg7 hp7 hba g1 g2 gd y0 y1 y2 HN HL HB0 HBF HBW HFR HU1 HU2 HN3 hone1
        generalize w7.setCell ⟨bf, 0, none⟩ (.slice A7 (k + 1) c7) = V8 at *
        go_wp2_with (at_builtin; refine append_int_at rfl _ _ rfl (w.heap.size + 1) (.slice Al k cl) (rng k) rfl (own_ints.2 (HL8.out.below (bel1 _ _))) _ (k : Int) rfl (Blk.new_at _ _ _ (by simp)) (by rw [rng_len]; omega) (by simp; omega) ?_; intro A5 c5 w5 ho5 hb5 hg5 hp5)
        have hbv := bel1 V8 (.cells #[.int .i64 (k : Int)] 3)
        rw [← rng_succ, rng_len] at ho5
        rw [rng_len] at hp5
        rw [rng_len]
        have ho6 := own_ints.1 ho5
        have HN9 := Lib.hid ((HN8.out.below hbv).keptL (HL8.out.below hbv) HFR8.out hg5)
        have HB09 := Lib.hid ((HB08.out.below hbv HB08.out.lt).grown hg5 (fun e => neBlk (HL8.out.below hbv) (HB08.out.below hbv HB08.out.lt) neIF e.symm))
        have HBF9 := Lib.hid ((HBF8.out.below hbv HBF8.out.lt).grown hg5 (fun e => neBlk (HL8.out.below hbv) (HBF8.out.below hbv HBF8.out.lt) neIF e.symm))
        have HO9 := Lib.hid ho6
        have HW9 := Lib.hid ((HBW8.out.trans (hbv.mono (by omega))).trans (hb5.mono (by omega)))
        have hsome : (Value.slice A5 (k + 1) c5).ownBlock ≠ none := by
          obtain ⟨g5, hA5, -⟩ := ho6.at (by rw [ints_len, rng_len]; omega)
          rw [hA5]
          exact fun e => by cases e
        have HFR9 : Hid (∀ u, u ∈ cs ++ [.slice A1 k c1] ++ [.slice A2 k c2] → Fre u (.slice A5 (k + 1) c5)) := Lib.hid fun u hu => by
          rcases hp5 with e | e
          · rcases HFR8.out u hu with e3 | e3
            · exact .inl e3
            · exact .inr (by rw [e]; exact e3)
          · refine .inr fun e2 => ?_
            obtain ⟨i, hi⟩ := List.mem_iff_getElem?.1 hu
            have hil : i < (nodesC (k + 1)).length := by
              have := HN8.out.frc.1
              rw [List.length_map] at this
              have h3 := (List.getElem?_eq_some_iff.1 hi).1
              omega
            obtain ⟨B1, d1, h1, h2⟩ := HN8.out.node i hil
            rw [hi] at h1
            injection h1 with h1
            subst h1
            have := (h2.lt _ (e2.trans e)).2
            have := hbv.size
            omega
        have HZ9 : Hid (w.heap.size + 4 ≤ w5.heap.size) := Lib.hid (by have := hbv.size; have := hb5.size; omega)
        have HSM := Lib.hid hsome
        clear hbv ho5 ho6 hg5 hp5 hb5 hsome HN8 HL8 HB08 HBF8 HBW8 HFR8
        go_roundw
        case rel => exact ⟨k + 1, c5, c7, A5, A7, _, by go_num, by omega, rfl, HO9.out, HSM.out, HBF9.out, HB09.out, HN9.out, HFR9.out, HW9.out, HZ9.out⟩
        case measure => simp [intOf]; omega
      · go_simp
        (go_at_call 17; (with_reducible refine (HOW.out Al cl k _ (by omega) (HL.out.below gd).rd).mono ?_); rintro e w1 ⟨A1, c1, rfl, ho1, hb1⟩)
        have g1 := gtr gd hb1
        have y1 : w1.cell? ⟨bf, 0, none⟩ = some (.slice A2n k c2n) := HBF.out.below g1 HBF.out.lt |>.cell 0
        dsimp only
        refine hK.out _ _ trivial (fun _ => ?_)
        clear hK K
        try simp only [Act.put]
        refine wpAnyH_ready (rs := [1, 5]) (by kernel_rfl) (by simp) ?_
        refine AllReadyH.cons (o := _) rfl (fun K hK => ?_) (AllReadyH.cons (o := _) rfl (fun K hK => ?_) AllReadyH.nil)
        · go_simp
          refine hK.out _ _ trivial (fun _ => ?_)
          clear hK K
          try simp only [Act.put]
          refine wpAnyH_ready (rs := [5]) (by kernel_rfl) (by simp) ?_
          refine AllReadyH.cons (o := _) rfl (fun K hK => ?_) AllReadyH.nil
          go_simp
          (go_at_call 17; (with_reducible refine (HOW.out Al cl k _ (by omega) (HL.out.below g1).rd).mono ?_); rintro e w2 ⟨A2, c2, rfl, ho2, hb2⟩)
          have g2 := gtr g1 hb2
          have y2 : w2.cell? ⟨bf, 0, none⟩ = some (.slice A2n k c2n) := HBF.out.below g2 HBF.out.lt |>.cell 0
          dsimp only
          refine hK.out _ _ trivial (fun _ => ?_)
          clear hK K
          try simp only [Act.put]
          have hN1 := HN.out.below gd
          have hN2 := hN1.add (by have := gd.size; omega) hb1 ho1
          have hN3 := hN2.add (by have := g1.size; omega) hb2 ho2
          have HN3 := Lib.hid hN3
          have HU1 := Lib.hid (show wr.heap.size ≤ (wr.drew).heap.size ∧ ∀ g, (Value.slice A1 k c1).ownBlock = some g → wr.heap.size ≤ g from ⟨gd.size, fun g hg => Nat.le_trans gd.size (ho1.lt g hg).1⟩)
          have HU2 := Lib.hid (show ∀ g, (Value.slice A2 k c2).ownBlock = some g → wr.heap.size ≤ g from fun g hg => Nat.le_trans g1.size (ho2.lt g hg).1)
          have hone1 : (Value.slice A1 k c1).oneCell' = true := rfl
          clear hN1 hN2 hN3 ho1 ho2 hb1 hb2
          refine wpAnyH_take (i := 6) (oi := ⟨some 20, _, _, _, _, _⟩) (v := ?vtb6) rfl (by kernel_rfl) (by kernel_rfl) (by kernel_rfl) (fun _ _ _ h => h) (Or.inl ⟨by kernel_rfl, ?hyb6⟩) (by assumption) ?_
          case hyb6 => (intro wh hSw; (try dsimp only at hSw); go_simp; try with_reducible rfl)
          simp only [Act.put, List.setIfInBounds_toArray, List.set_cons_zero, List.set_cons_succ]
          refine wpAnyH_ready (rs := [7]) (by kernel_rfl) (by simp) ?_
          refine AllReadyH.cons (o := _) rfl (fun K hK => ?_) AllReadyH.nil
          go_simp
          refine hK.out _ _ trivial (fun _ => ?_)
          clear hK K
          try simp only [Act.put]
          refine wpAnyH_ready (rs := [8]) (by kernel_rfl) (by simp) ?_
          refine AllReadyH.cons (o := _) rfl (fun K hK => ?_) AllReadyH.nil
          refine step_append_kat (by rfl) (.tmp 15) (.tmp 21) 22 40 (.agg #[.slice none 0 0, .slice none 0 0]) 2 48 (by rfl) Tryd.underlying22 infoNode rfl (by omega) (by omega) (w.heap.size + 1) (.slice A2n k c2n) k cs (by rfl) (ownsK_below HN3.out.own (bel1 _ _)) _ #[.slice A1 k c1, .slice A2 k c2] (by rfl) (Blk.new_at _ _ _ (by simp)) rfl (fun u hu => by simp at hu; rcases hu with rfl | rfl <;> rfl) (by omega) (by have := g2.size; simp; omega) ?_
          intro A7 c7 w7 ho7 hb7 hg7 hp7
          have hba := bel1 w2 (.cells #[.slice A1 k c1, .slice A2 k c2] 40)
          have i7 := (HBF.out.below (gtr g2 hba) HBF.out.lt).grown hg7 (fun e => neBlkK (ownsK_below HN3.out.own hba) (HBF.out.below (gtr g2 hba) HBF.out.lt) neNF e.symm)
          have j7 := (HB0.out.below (gtr g2 hba) HB0.out.lt).grown hg7 (fun e => neBlkK (ownsK_below HN3.out.own hba) (HB0.out.below (gtr g2 hba) HB0.out.lt) neNF e.symm)
          have hl7 := (HL.out.below (gtr g2 hba)).grown hg7 (neTK (HL.out.below (gtr g2 hba)) (ownsK_below HN3.out.own hba) neIN)
          have hN7 := FrN.grow HN3.out hba ho7 hg7 hp7
          have y7 : w7.cell? ⟨bf, 0, none⟩ = some (.slice A2n k c2n) := i7.cell 0
          have yf7 : w7.frozen? ⟨bf, 0, none⟩ = false := i7.frozen 0
          have hz7 : wr.heap.size ≤ w7.heap.size := by have := g2.size; have := hba.size; have := hb7.size; omega
          have hB7 : Below w.heap.size w w7 := ((HBW.out.trans (g2.mono hzr)).trans (hba.mono (by have := g2.size; omega))).trans (hb7.mono (by omega))
          try dsimp only
          refine hK.out _ _ trivial (fun _ => ?_)
          clear hK K
          try simp only [Act.put]
          refine wpAnyH_take (i := 9) (oi := ⟨some 23, _, _, _, _, _⟩) (v := ?vtb9) rfl (by kernel_rfl) (by kernel_rfl) (by kernel_rfl) (fun _ _ _ h => h) (Or.inl ⟨by kernel_rfl, ?hyb9⟩) (by assumption) ?_
          case hyb9 => (intro wh hSw; (try dsimp only at hSw); go_simp; try with_reducible rfl)
          simp only [Act.put, List.setIfInBounds_toArray]
          refine wpAnyH_ready (rs := [10]) (by kernel_rfl) (by simp) ?_
          refine AllReadyH.cons (o := _) rfl (fun K hK => ?_) AllReadyH.nil
          go_simp
          refine hK.out _ _ trivial (fun _ => ?_)
          clear hK K
          try simp only [Act.put]
          refine wpAnyH_done (by kernel_rfl) ?_ _
          refine NoPanic.normal ?_
          have hS7 := grown_set w7 bf 0 (.slice A7 (k + 1) c7)
          have HN8 : Hid (FrN (w7.setCell ⟨bf, 0, none⟩ (.slice A7 (k + 1) c7)) (w.heap.size + 1) (.slice A7 (k + 1) c7) (k + 1) (cs ++ [.slice A1 k c1] ++ [.slice A2 k c2]) (cs ++ [.slice A1 k c1] ++ [.slice A2 k c2]) ((nodesC (k + 1)).map ints)) := Lib.hid (by
            have h := hN7.keptBlk i7 neNF neIF hS7
            have e : cs ++ #[Value.slice A1 k c1, Value.slice A2 k c2].toList = cs ++ [.slice A1 k c1] ++ [.slice A2 k c2] := by simp
            rw [e] at h
            rw [nodesC, List.map_append, List.map_append]
            exact h)
          have HL8 := Lib.hid (hl7.grown hS7 (.inr (neBlk hl7 i7 neIF)))
          have HB08 := Lib.hid (j7.grown hS7 (by intro e; injection e with e; omega))
          have HBF8 := Lib.hid (i7.set 0 (.slice A7 (k + 1) c7))
          have HBW8 := Lib.hid (hB7.setCell (p := ⟨bf, 0, none⟩) (by show w.heap.size ≤ bf; omega) (.slice A7 (k + 1) c7))
          have HFR8 : Hid (∀ u, u ∈ cs ++ [.slice A1 k c1] ++ [.slice A2 k c2] → Fre u (.slice Al k cl)) := Lib.hid fun u hu => by
            rcases List.mem_append.1 hu with hu | hu
            · rcases List.mem_append.1 hu with hu | hu
              · exact HFR.out u hu
              · rw [List.mem_singleton.1 hu]
                exact .inr fun e => by
                  by_cases h0 : (Value.slice A1 k c1).ownBlock = none
                  · rw [h0] at e
                    exact HLN.out e.symm
                  · obtain ⟨g, hg⟩ := Option.ne_none_iff_exists'.1 h0
                    have h1 := HU1.out.2 g hg
                    have h2 := (HL.out.lt g (by rw [← e]; exact hg)).2
                    omega
            · rw [List.mem_singleton.1 hu]
              exact .inr fun e => by
                by_cases h0 : (Value.slice A2 k c2).ownBlock = none
                · rw [h0] at e
                  exact HLN.out e.symm
                · obtain ⟨g, hg⟩ := Option.ne_none_iff_exists'.1 h0
                  have h1 := HU2.out g hg
                  have h2 := (HL.out.lt g (by rw [← e]; exact hg)).2
                  omega
          have hz8 : wr.heap.size ≤ (w7.setCell ⟨bf, 0, none⟩ (.slice A7 (k + 1) c7)).heap.size := by simpa using hz7
          clear hS7 hN7 hl7 i7 j7 y7 yf7 hB7 ho7 hb7 hg7 hp7 hba g1 g2 gd y0 y1 y2 HN HL HB0 HBF HBW HFR HU1 HU2 HN3 hone1
          generalize w7.setCell ⟨bf, 0, none⟩ (.slice A7 (k + 1) c7) = V8 at *
          go_wp2_with (at_builtin; refine append_int_at rfl _ _ rfl (w.heap.size + 1) (.slice Al k cl) (rng k) rfl (own_ints.2 (HL8.out.below (bel1 _ _))) _ (k : Int) rfl (Blk.new_at _ _ _ (by simp)) (by rw [rng_len]; omega) (by simp; omega) ?_; intro A5 c5 w5 ho5 hb5 hg5 hp5)
          have hbv := bel1 V8 (.cells #[.int .i64 (k : Int)] 3)
          rw [← rng_succ, rng_len] at ho5
          rw [rng_len] at hp5
          rw [rng_len]
          have ho6 := own_ints.1 ho5
          have HN9 := Lib.hid ((HN8.out.below hbv).keptL (HL8.out.below hbv) HFR8.out hg5)
          have HB09 := Lib.hid ((HB08.out.below hbv HB08.out.lt).grown hg5 (fun e => neBlk (HL8.out.below hbv) (HB08.out.below hbv HB08.out.lt) neIF e.symm))
          have HBF9 := Lib.hid ((HBF8.out.below hbv HBF8.out.lt).grown hg5 (fun e => neBlk (HL8.out.below hbv) (HBF8.out.below hbv HBF8.out.lt) neIF e.symm))
          have HO9 := Lib.hid ho6
          have HW9 := Lib.hid ((HBW8.out.trans (hbv.mono (by omega))).trans (hb5.mono (by omega)))
          have hsome : (Value.slice A5 (k + 1) c5).ownBlock ≠ none := by
            obtain ⟨g5, hA5, -⟩ := ho6.at (by rw [ints_len, rng_len]; omega)
            rw [hA5]
            exact fun e => by cases e
          have HFR9 : Hid (∀ u, u ∈ cs ++ [.slice A1 k c1] ++ [.slice A2 k c2] → Fre u (.slice A5 (k + 1) c5)) := Lib.hid fun u hu => by
            rcases hp5 with e | e
            · rcases HFR8.out u hu with e3 | e3
              · exact .inl e3
              · exact .inr (by rw [e]; exact e3)
            · refine .inr fun e2 => ?_
              obtain ⟨i, hi⟩ := List.mem_iff_getElem?.1 hu
              have hil : i < (nodesC (k + 1)).length := by
                have := HN8.out.frc.1
                rw [List.length_map] at this
                have h3 := (List.getElem?_eq_some_iff.1 hi).1
                omega
              obtain ⟨B1, d1, h1, h2⟩ := HN8.out.node i hil
              rw [hi] at h1
              injection h1 with h1
              subst h1
              have := (h2.lt _ (e2.trans e)).2
              have := hbv.size
              omega
          have HZ9 : Hid (w.heap.size + 4 ≤ w5.heap.size) := Lib.hid (by have := hbv.size; have := hb5.size; omega)
          have HSM := Lib.hid hsome
          clear hbv ho5 ho6 hg5 hp5 hb5 hsome HN8 HL8 HB08 HBF8 HBW8 HFR8
          go_roundw
          case rel => exact ⟨k + 1, c5, c7, A5, A7, _, by go_num, by omega, rfl, HO9.out, HSM.out, HBF9.out, HB09.out, HN9.out, HFR9.out, HW9.out, HZ9.out⟩
          case measure => simp [intOf]; omega
        · go_simp
          (go_at_call 17; (with_reducible refine (HOW.out Al cl k _ (by omega) (HL.out.below g1).rd).mono ?_); rintro e w2 ⟨A2, c2, rfl, ho2, hb2⟩)
          have g2 := gtr g1 hb2
          have y2 : w2.cell? ⟨bf, 0, none⟩ = some (.slice A2n k c2n) := HBF.out.below g2 HBF.out.lt |>.cell 0
          dsimp only
          refine hK.out _ _ trivial (fun _ => ?_)
          clear hK K
          try simp only [Act.put]
          have hN1 := HN.out.below gd
          have hN2 := hN1.add (by have := gd.size; omega) hb1 ho1
          have hN3 := hN2.add (by have := g1.size; omega) hb2 ho2
          have HN3 := Lib.hid hN3
          have HU1 := Lib.hid (show wr.heap.size ≤ (wr.drew).heap.size ∧ ∀ g, (Value.slice A1 k c1).ownBlock = some g → wr.heap.size ≤ g from ⟨gd.size, fun g hg => Nat.le_trans gd.size (ho1.lt g hg).1⟩)
          have HU2 := Lib.hid (show ∀ g, (Value.slice A2 k c2).ownBlock = some g → wr.heap.size ≤ g from fun g hg => Nat.le_trans g1.size (ho2.lt g hg).1)
          have hone1 : (Value.slice A1 k c1).oneCell' = true := rfl
          clear hN1 hN2 hN3 ho1 ho2 hb1 hb2
          refine wpAnyH_take (i := 6) (oi := ⟨some 20, _, _, _, _, _⟩) (v := ?vtc6) rfl (by kernel_rfl) (by kernel_rfl) (by kernel_rfl) (fun _ _ _ h => h) (Or.inl ⟨by kernel_rfl, ?hyc6⟩) (by assumption) ?_
          case hyc6 => (intro wh hSw; (try dsimp only at hSw); go_simp; try with_reducible rfl)
          simp only [Act.put, List.setIfInBounds_toArray, List.set_cons_zero, List.set_cons_succ]
          refine wpAnyH_ready (rs := [1, 7]) (by kernel_rfl) (by simp) ?_
          refine AllReadyH.cons (o := _) rfl (fun K hK => ?_) (AllReadyH.cons (o := _) rfl (fun K hK => ?_) AllReadyH.nil)
          · go_simp
            refine hK.out _ _ trivial (fun _ => ?_)
            clear hK K
            try simp only [Act.put]
            refine wpAnyH_ready (rs := [7]) (by kernel_rfl) (by simp) ?_
            refine AllReadyH.cons (o := _) rfl (fun K hK => ?_) AllReadyH.nil
            go_simp
            refine hK.out _ _ trivial (fun _ => ?_)
            clear hK K
            try simp only [Act.put]
            refine wpAnyH_ready (rs := [8]) (by kernel_rfl) (by simp) ?_
            refine AllReadyH.cons (o := _) rfl (fun K hK => ?_) AllReadyH.nil
            refine step_append_kat (by rfl) (.tmp 15) (.tmp 21) 22 40 (.agg #[.slice none 0 0, .slice none 0 0]) 2 48 (by rfl) Tryd.underlying22 infoNode rfl (by omega) (by omega) (w.heap.size + 1) (.slice A2n k c2n) k cs (by rfl) (ownsK_below HN3.out.own (bel1 _ _)) _ #[.slice A1 k c1, .slice A2 k c2] (by rfl) (Blk.new_at _ _ _ (by simp)) rfl (fun u hu => by simp at hu; rcases hu with rfl | rfl <;> rfl) (by omega) (by have := g2.size; simp; omega) ?_
            intro A7 c7 w7 ho7 hb7 hg7 hp7
            have hba := bel1 w2 (.cells #[.slice A1 k c1, .slice A2 k c2] 40)
            have i7 := (HBF.out.below (gtr g2 hba) HBF.out.lt).grown hg7 (fun e => neBlkK (ownsK_below HN3.out.own hba) (HBF.out.below (gtr g2 hba) HBF.out.lt) neNF e.symm)
            have j7 := (HB0.out.below (gtr g2 hba) HB0.out.lt).grown hg7 (fun e => neBlkK (ownsK_below HN3.out.own hba) (HB0.out.below (gtr g2 hba) HB0.out.lt) neNF e.symm)
            have hl7 := (HL.out.below (gtr g2 hba)).grown hg7 (neTK (HL.out.below (gtr g2 hba)) (ownsK_below HN3.out.own hba) neIN)
            have hN7 := FrN.grow HN3.out hba ho7 hg7 hp7
            have y7 : w7.cell? ⟨bf, 0, none⟩ = some (.slice A2n k c2n) := i7.cell 0
            have yf7 : w7.frozen? ⟨bf, 0, none⟩ = false := i7.frozen 0
            have hz7 : wr.heap.size ≤ w7.heap.size := by have := g2.size; have := hba.size; have := hb7.size; omega
            have hB7 : Below w.heap.size w w7 := ((HBW.out.trans (g2.mono hzr)).trans (hba.mono (by have := g2.size; omega))).trans (hb7.mono (by omega))
            try dsimp only
            refine hK.out _ _ trivial (fun _ => ?_)
            clear hK K
            try simp only [Act.put]
            refine wpAnyH_take (i := 9) (oi := ⟨some 23, _, _, _, _, _⟩) (v := ?vtc9) rfl (by kernel_rfl) (by kernel_rfl) (by kernel_rfl) (fun _ _ _ h => h) (Or.inl ⟨by kernel_rfl, ?hyc9⟩) (by assumption) ?_
            case hyc9 => (intro wh hSw; (try dsimp only at hSw); go_simp; try with_reducible rfl)
            simp only [Act.put, List.setIfInBounds_toArray]
            refine wpAnyH_ready (rs := [10]) (by kernel_rfl) (by simp) ?_
            refine AllReadyH.cons (o := _) rfl (fun K hK => ?_) AllReadyH.nil
            go_simp
            refine hK.out _ _ trivial (fun _ => ?_)
            clear hK K
            try simp only [Act.put]
            refine wpAnyH_done (by kernel_rfl) ?_ _
            refine NoPanic.normal ?_
            have hS7 := grown_set w7 bf 0 (.slice A7 (k + 1) c7)
            have HN8 : Hid (FrN (w7.setCell ⟨bf, 0, none⟩ (.slice A7 (k + 1) c7)) (w.heap.size + 1) (.slice A7 (k + 1) c7) (k + 1) (cs ++ [.slice A1 k c1] ++ [.slice A2 k c2]) (cs ++ [.slice A1 k c1] ++ [.slice A2 k c2]) ((nodesC (k + 1)).map ints)) := Lib.hid (by
              have h := hN7.keptBlk i7 neNF neIF hS7
              have e : cs ++ #[Value.slice A1 k c1, Value.slice A2 k c2].toList = cs ++ [.slice A1 k c1] ++ [.slice A2 k c2] := by simp
              rw [e] at h
              rw [nodesC, List.map_append, List.map_append]
              exact h)
            have HL8 := Lib.hid (hl7.grown hS7 (.inr (neBlk hl7 i7 neIF)))
            have HB08 := Lib.hid (j7.grown hS7 (by intro e; injection e with e; omega))
            have HBF8 := Lib.hid (i7.set 0 (.slice A7 (k + 1) c7))
            have HBW8 := Lib.hid (hB7.setCell (p := ⟨bf, 0, none⟩) (by show w.heap.size ≤ bf; omega) (.slice A7 (k + 1) c7))
            have HFR8 : Hid (∀ u, u ∈ cs ++ [.slice A1 k c1] ++ [.slice A2 k c2] → Fre u (.slice Al k cl)) := Lib.hid fun u hu => by
              rcases List.mem_append.1 hu with hu | hu
              · rcases List.mem_append.1 hu with hu | hu
                · exact HFR.out u hu
                · rw [List.mem_singleton.1 hu]
                  exact .inr fun e => by
                    by_cases h0 : (Value.slice A1 k c1).ownBlock = none
                    · rw [h0] at e
                      exact HLN.out e.symm
                    · obtain ⟨g, hg⟩ := Option.ne_none_iff_exists'.1 h0
                      have h1 := HU1.out.2 g hg
                      have h2 := (HL.out.lt g (by rw [← e]; exact hg)).2
                      omega
              · rw [List.mem_singleton.1 hu]
                exact .inr fun e => by
                  by_cases h0 : (Value.slice A2 k c2).ownBlock = none
                  · rw [h0] at e
                    exact HLN.out e.symm
                  · obtain ⟨g, hg⟩ := Option.ne_none_iff_exists'.1 h0
                    have h1 := HU2.out g hg
                    have h2 := (HL.out.lt g (by rw [← e]; exact hg)).2
                    omega
            have hz8 : wr.heap.size ≤ (w7.setCell ⟨bf, 0, none⟩ (.slice A7 (k + 1) c7)).heap.size := by simpa using hz7
            clear hS7 hN7 hl7 i7 j7 y7 yf7 hB7 ho7 hb7 hg7 hp7 hba g1 g2 gd y0 y1 y2 HN HL HB0 HBF HBW HFR HU1 HU2 HN3 hone1
            generalize w7.setCell ⟨bf, 0, none⟩ (.slice A7 (k + 1) c7) = V8 at *
            go_wp2_with (at_builtin; refine append_int_at rfl _ _ rfl (w.heap.size + 1) (.slice Al k cl) (rng k) rfl (own_ints.2 (HL8.out.below (bel1 _ _))) _ (k : Int) rfl (Blk.new_at _ _ _ (by simp)) (by rw [rng_len]; omega) (by simp; omega) ?_; intro A5 c5 w5 ho5 hb5 hg5 hp5)
            have hbv := bel1 V8 (.cells #[.int .i64 (k : Int)] 3)
            rw [← rng_succ, rng_len] at ho5
            rw [rng_len] at hp5
            rw [rng_len]
            have ho6 := own_ints.1 ho5
            have HN9 := Lib.hid ((HN8.out.below hbv).keptL (HL8.out.below hbv) HFR8.out hg5)
            have HB09 := Lib.hid ((HB08.out.below hbv HB08.out.lt).grown hg5 (fun e => neBlk (HL8.out.below hbv) (HB08.out.below hbv HB08.out.lt) neIF e.symm))
            have HBF9 := Lib.hid ((HBF8.out.below hbv HBF8.out.lt).grown hg5 (fun e => neBlk (HL8.out.below hbv) (HBF8.out.below hbv HBF8.out.lt) neIF e.symm))
            have HO9 := Lib.hid ho6
            have HW9 := Lib.hid ((HBW8.out.trans (hbv.mono (by omega))).trans (hb5.mono (by omega)))
            have hsome : (Value.slice A5 (k + 1) c5).ownBlock ≠ none := by
              obtain ⟨g5, hA5, -⟩ := ho6.at (by rw [ints_len, rng_len]; omega)
              rw [hA5]
              exact fun e => by cases e
            have HFR9 : Hid (∀ u, u ∈ cs ++ [.slice A1 k c1] ++ [.slice A2 k c2] → Fre u (.slice A5 (k + 1) c5)) := Lib.hid fun u hu => by
              rcases hp5 with e | e
              · rcases HFR8.out u hu with e3 | e3
                · exact .inl e3
                · exact .inr (by rw [e]; exact e3)
              · refine .inr fun e2 => ?_
                obtain ⟨i, hi⟩ := List.mem_iff_getElem?.1 hu
                have hil : i < (nodesC (k + 1)).length := by
                  have := HN8.out.frc.1
                  rw [List.length_map] at this
                  have h3 := (List.getElem?_eq_some_iff.1 hi).1
                  omega
                obtain ⟨B1, d1, h1, h2⟩ := HN8.out.node i hil
                rw [hi] at h1
                injection h1 with h1
                subst h1
                have := (h2.lt _ (e2.trans e)).2
                have := hbv.size
                omega
            have HZ9 : Hid (w.heap.size + 4 ≤ w5.heap.size) := Lib.hid (by have := hbv.size; have := hb5.size; omega)
            have HSM := Lib.hid hsome
            clear hbv ho5 ho6 hg5 hp5 hb5 hsome HN8 HL8 HB08 HBF8 HBW8 HFR8
            go_roundw
            case rel => exact ⟨k + 1, c5, c7, A5, A7, _, by go_num, by omega, rfl, HO9.out, HSM.out, HBF9.out, HB09.out, HN9.out, HFR9.out, HW9.out, HZ9.out⟩
            case measure => simp [intOf]; omega
          · go_simp
            refine hK.out _ _ trivial (fun _ => ?_)
            clear hK K
            try simp only [Act.put]
            refine wpAnyH_ready (rs := [1]) (by kernel_rfl) (by simp) ?_
            refine AllReadyH.cons (o := _) rfl (fun K hK => ?_) AllReadyH.nil
            have y3 : (w2.alloc (.cells #[.slice A1 k c1, .slice A2 k c2] 40)).cell? ⟨bf, 0, none⟩ = some (.slice A2n k c2n) := HBF.out.below (gtr g2 (bel1 w2 _)) HBF.out.lt |>.cell 0
            go_simp
            refine hK.out _ _ trivial (fun _ => ?_)
            clear hK K y3
            try simp only [Act.put]
            refine wpAnyH_ready (rs := [8]) (by kernel_rfl) (by simp) ?_
            refine AllReadyH.cons (o := _) rfl (fun K hK => ?_) AllReadyH.nil
            refine step_append_kat (by rfl) (.tmp 15) (.tmp 21) 22 40 (.agg #[.slice none 0 0, .slice none 0 0]) 2 48 (by rfl) Tryd.underlying22 infoNode rfl (by omega) (by omega) (w.heap.size + 1) (.slice A2n k c2n) k cs (by rfl) (ownsK_below HN3.out.own (bel1 _ _)) _ #[.slice A1 k c1, .slice A2 k c2] (by rfl) (Blk.new_at _ _ _ (by simp)) rfl (fun u hu => by simp at hu; rcases hu with rfl | rfl <;> rfl) (by omega) (by have := g2.size; simp; omega) ?_
            intro A7 c7 w7 ho7 hb7 hg7 hp7
            have hba := bel1 w2 (.cells #[.slice A1 k c1, .slice A2 k c2] 40)
            have i7 := (HBF.out.below (gtr g2 hba) HBF.out.lt).grown hg7 (fun e => neBlkK (ownsK_below HN3.out.own hba) (HBF.out.below (gtr g2 hba) HBF.out.lt) neNF e.symm)
            have j7 := (HB0.out.below (gtr g2 hba) HB0.out.lt).grown hg7 (fun e => neBlkK (ownsK_below HN3.out.own hba) (HB0.out.below (gtr g2 hba) HB0.out.lt) neNF e.symm)
            have hl7 := (HL.out.below (gtr g2 hba)).grown hg7 (neTK (HL.out.below (gtr g2 hba)) (ownsK_below HN3.out.own hba) neIN)
            have hN7 := FrN.grow HN3.out hba ho7 hg7 hp7
            have y7 : w7.cell? ⟨bf, 0, none⟩ = some (.slice A2n k c2n) := i7.cell 0
            have yf7 : w7.frozen? ⟨bf, 0, none⟩ = false := i7.frozen 0
            have hz7 : wr.heap.size ≤ w7.heap.size := by have := g2.size; have := hba.size; have := hb7.size; omega
            have hB7 : Below w.heap.size w w7 := ((HBW.out.trans (g2.mono hzr)).trans (hba.mono (by have := g2.size; omega))).trans (hb7.mono (by omega))
            try dsimp only
            refine hK.out _ _ trivial (fun _ => ?_)
            clear hK K
            try simp only [Act.put]
            refine wpAnyH_take (i := 9) (oi := ⟨some 23, _, _, _, _, _⟩) (v := ?vtd9) rfl (by kernel_rfl) (by kernel_rfl) (by kernel_rfl) (fun _ _ _ h => h) (Or.inl ⟨by kernel_rfl, ?hyd9⟩) (by assumption) ?_
            case hyd9 => (intro wh hSw; (try dsimp only at hSw); go_simp; try with_reducible rfl)
            simp only [Act.put, List.setIfInBounds_toArray]
            refine wpAnyH_ready (rs := [10]) (by kernel_rfl) (by simp) ?_
            refine AllReadyH.cons (o := _) rfl (fun K hK => ?_) AllReadyH.nil
            go_simp
            refine hK.out _ _ trivial (fun _ => ?_)
            clear hK K
            try simp only [Act.put]
            refine wpAnyH_done (by kernel_rfl) ?_ _
            refine NoPanic.normal ?_
            have hS7 := grown_set w7 bf 0 (.slice A7 (k + 1) c7)
            have HN8 : Hid (FrN (w7.setCell ⟨bf, 0, none⟩ (.slice A7 (k + 1) c7)) (w.heap.size + 1) (.slice A7 (k + 1) c7) (k + 1) (cs ++ [.slice A1 k c1] ++ [.slice A2 k c2]) (cs ++ [.slice A1 k c1] ++ [.slice A2 k c2]) ((nodesC (k + 1)).map ints)) := Lib.hid (by
              have h := hN7.keptBlk i7 neNF neIF hS7
              have e : cs ++ #[Value.slice A1 k c1, Value.slice A2 k c2].toList = cs ++ [.slice A1 k c1] ++ [.slice A2 k c2] := by simp
              rw [e] at h
              rw [nodesC, List.map_append, List.map_append]
              exact h)
            have HL8 := Lib.hid (hl7.grown hS7 (.inr (neBlk hl7 i7 neIF)))
            have HB08 := Lib.hid (j7.grown hS7 (by intro e; injection e with e; omega))
            have HBF8 := Lib.hid (i7.set 0 (.slice A7 (k + 1) c7))
            have HBW8 := Lib.hid (hB7.setCell (p := ⟨bf, 0, none⟩) (by show w.heap.size ≤ bf; omega) (.slice A7 (k + 1) c7))
            have HFR8 : Hid (∀ u, u ∈ cs ++ [.slice A1 k c1] ++ [.slice A2 k c2] → Fre u (.slice Al k cl)) := Lib.hid fun u hu => by
              rcases List.mem_append.1 hu with hu | hu
              · rcases List.mem_append.1 hu with hu | hu
                · exact HFR.out u hu
                · rw [List.mem_singleton.1 hu]
                  exact .inr fun e => by
                    by_cases h0 : (Value.slice A1 k c1).ownBlock = none
                    · rw [h0] at e
                      exact HLN.out e.symm
                    · obtain ⟨g, hg⟩ := Option.ne_none_iff_exists'.1 h0
                      have h1 := HU1.out.2 g hg
                      have h2 := (HL.out.lt g (by rw [← e]; exact hg)).2
                      omega
              · rw [List.mem_singleton.1 hu]
                exact .inr fun e => by
                  by_cases h0 : (Value.slice A2 k c2).ownBlock = none
                  · rw [h0] at e
                    exact HLN.out e.symm
                  · obtain ⟨g, hg⟩ := Option.ne_none_iff_exists'.1 h0
                    have h1 := HU2.out g hg
                    have h2 := (HL.out.lt g (by rw [← e]; exact hg)).2
                    omega
            have hz8 : wr.heap.size ≤ (w7.setCell ⟨bf, 0, none⟩ (.slice A7 (k + 1) c7)).heap.size := by simpa using hz7
            clear hS7 hN7 hl7 i7 j7 y7 yf7 hB7 ho7 hb7 hg7 hp7 hba g1 g2 gd y0 y1 y2 HN HL HB0 HBF HBW HFR HU1 HU2 HN3 hone1
            generalize w7.setCell ⟨bf, 0, none⟩ (.slice A7 (k + 1) c7) = V8 at *
            go_wp2_with (at_builtin; refine append_int_at rfl _ _ rfl (w.heap.size + 1) (.slice Al k cl) (rng k) rfl (own_ints.2 (HL8.out.below (bel1 _ _))) _ (k : Int) rfl (Blk.new_at _ _ _ (by simp)) (by rw [rng_len]; omega) (by simp; omega) ?_; intro A5 c5 w5 ho5 hb5 hg5 hp5)
            have hbv := bel1 V8 (.cells #[.int .i64 (k : Int)] 3)
            rw [← rng_succ, rng_len] at ho5
            rw [rng_len] at hp5
            rw [rng_len]
            have ho6 := own_ints.1 ho5
            have HN9 := Lib.hid ((HN8.out.below hbv).keptL (HL8.out.below hbv) HFR8.out hg5)
            have HB09 := Lib.hid ((HB08.out.below hbv HB08.out.lt).grown hg5 (fun e => neBlk (HL8.out.below hbv) (HB08.out.below hbv HB08.out.lt) neIF e.symm))
            have HBF9 := Lib.hid ((HBF8.out.below hbv HBF8.out.lt).grown hg5 (fun e => neBlk (HL8.out.below hbv) (HBF8.out.below hbv HBF8.out.lt) neIF e.symm))
            have HO9 := Lib.hid ho6
            have HW9 := Lib.hid ((HBW8.out.trans (hbv.mono (by omega))).trans (hb5.mono (by omega)))
            have hsome : (Value.slice A5 (k + 1) c5).ownBlock ≠ none := by
              obtain ⟨g5, hA5, -⟩ := ho6.at (by rw [ints_len, rng_len]; omega)
              rw [hA5]
              exact fun e => by cases e
            have HFR9 : Hid (∀ u, u ∈ cs ++ [.slice A1 k c1] ++ [.slice A2 k c2] → Fre u (.slice A5 (k + 1) c5)) := Lib.hid fun u hu => by
              rcases hp5 with e | e
              · rcases HFR8.out u hu with e3 | e3
                · exact .inl e3
                · exact .inr (by rw [e]; exact e3)
              · refine .inr fun e2 => ?_
                obtain ⟨i, hi⟩ := List.mem_iff_getElem?.1 hu
                have hil : i < (nodesC (k + 1)).length := by
                  have := HN8.out.frc.1
                  rw [List.length_map] at this
                  have h3 := (List.getElem?_eq_some_iff.1 hi).1
                  omega
                obtain ⟨B1, d1, h1, h2⟩ := HN8.out.node i hil
                rw [hi] at h1
                injection h1 with h1
                subst h1
                have := (h2.lt _ (e2.trans e)).2
                have := hbv.size
                omega
            have HZ9 : Hid (w.heap.size + 4 ≤ w5.heap.size) := Lib.hid (by have := hbv.size; have := hb5.size; omega)
            have HSM := Lib.hid hsome
            clear hbv ho5 ho6 hg5 hp5 hb5 hsome HN8 HL8 HB08 HBF8 HBW8 HFR8
            go_roundw
            case rel => exact ⟨k + 1, c5, c7, A5, A7, _, by go_num, by omega, rfl, HO9.out, HSM.out, HBF9.out, HB09.out, HN9.out, HFR9.out, HW9.out, HZ9.out⟩
            case measure => simp [intOf]; omega
    · have hkn : k = n + 1 := by omega
      subst hkn
      have hltI : ¬ ((n + 1 : Nat) : Int) ≤ (n : Int) := by omega
      have r0 : wr.cell? ⟨w.heap.size, 0, none⟩ = some (.slice none 0 0) := by have := hB0.cell 0; simpa using this
      have rf0 : wr.frozen? ⟨w.heap.size, 0, none⟩ = false := hB0.frozen 0
      have HNF := Lib.hid ((hN.keptBlk hB0 neNF neIF (grown_set wr w.heap.size 0 (.slice A2n (n + 1) c2n))).le (show w.heap.size ≤ w.heap.size + 1 by omega))
      have HBFF := Lib.hid (hBW.setCell (p := ⟨w.heap.size, 0, none⟩) (Nat.le_refl _) (.slice A2n (n + 1) c2n))
      clear hL hLN hBF hB0 hN hFR hBW HL HLN HBF HB0 HN HFR HBW
      go_wp2_with fail
      refine bodyPost_ret (v := .agg #[.slice A2n (n + 1) c2n]) (by simp [results, Tryd.results10, go_sem, r0]) rfl ⟨A2n, c2n, rfl, ⟨cs, HNF.out⟩, HBFF.out⟩
end Go.Proofs.YtdjchjmmpjofcaaDoor
