/- Several texts in one: XMisR XMisRS XMisRL XMovS XUnl0 XUnl. Conditions: none. -/
import Derived.Test.YtdckgplmkigjcaaMisW
import Derived.Test.YtdckgplmkigjcaaRow1
import Derived.Test.YtdckgplmkigjcaaMisV
import Derived.Test.YtdckgplmkigjcaaVals2
import Derived.Test.YtdckgplmkigjcaaHmI
namespace Go.Proofs.Ytdckgplmkigjcaa
open Go.RowKit Go.Maps
set_option linter.unusedVariables false

theorem Own.grownLow {w w' : World} {base b : Nat} {E : TypeId} {v : Value} {cs : List Value} (h : Own w base E v cs) (hg : w.grownBy w' (some b)) (hb : b < base) : Own w' base E v cs := by
  refine h.grown hg ?_
  rcases hob : v.ownBlock with _ | k
  · exact .inl rfl
  · refine .inr fun e => ?_
    injection e with e
    have := (h.lt k hob).1
    omega
/-- The values of the heaps of 0 to n - 1. -/
noncomputable def rowM (cs : List Int) (n : Nat) : List Int := (List.range n).map fun (h : Nat) => ((mz cs (nz [(h : Int)]) : Nat) : Int)
theorem rowM_len (cs : List Int) (n : Nat) : (rowM cs n).length = n := by simp [rowM]
theorem rowM_succ (cs : List Int) (n : Nat) : rowM cs (n + 1) = rowM cs n ++ [((mz cs (nz [(n : Int)]) : Nat) : Int)] := by simp [rowM, List.range_succ]
theorem hp_one (h : Nat) (hh : h ≤ 20) : Hp 20 (nz [(h : Int)]) := by
  refine ⟨fun x hx => ?_, ?_, by rw [sm_nz]; simp [sm]; omega⟩
  · have h1 := List.mem_filter.1 hx
    have h2 : x = h := by simpa using h1.1
    have h3 : x ≠ 0 := by simpa using h1.2
    omega
  · exact (List.pairwise_singleton _ _).sublist List.filter_sublist
theorem srt_one (h : Nat) : srt (nz [(h : Int)]) = nz [(h : Int)] := srt_self ((List.pairwise_singleton _ _).sublist List.filter_sublist)

set_option maxRecDepth 100000 in
set_option maxHeartbeats 1600000 in
theorem rowI_loop (A : Option Addr) (c : Nat) (cs : List Int) (n : Nat) (w : World) (B : Nat) (hB : B ≤ w.heap.size) (h : RdI w B A c cs) (hg : goodCodeB cs = true) (hn : n ≤ 20) :
    Calls Try.prog 29 #[.slice A cs.length c, .int .i64 n] w fun e w' => ∃ A' c', e = .returned (.tuple #[.slice A' (n + 1) c', .bool true]) ∧ OwnI w' w.heap.size (.slice A' (n + 1) c') (rowM cs (n + 1)) ∧ Below w.heap.size w w' := by
  have HC := Lib.hid (goodCodeI_any A c cs w B h)
  rw [hg] at HC
  have HG := Lib.hid (goodCodeB_true.1 hg)
  have HH := Lib.hid h
  have hn0 : (0 : Int) ≤ (n : Int) := by omega
  clear hg h
  go_enter Try.func29, Try.ntmps29
  go_wp2_with (first
    | (go_at_call 66; (with_reducible refine (HC.out).mono ?_); rintro e w1 ⟨rfl, rfl⟩)
    | (go_at_call 53; (with_reducible refine (newM_any A c cs _).mono ?_); rintro e w2 ⟨b, rfl, hbw, hM2, hb2⟩))
  have hz2 := hb2.size
  have hzB : (w2.alloc (.cells #[.slice A cs.length c, .map (some b)] 63)).heap.size = w2.heap.size + 1 := by simp
  obtain ⟨G, hG⟩ : ∃ G, G = w2.heap.size := ⟨_, rfl⟩
  have hbA := bel2 w2 (.cells #[.slice A cs.length c, .map (some b)] 63) (.cells #[] 3)
  have hBX : Blk ((w2.alloc (.cells #[.slice A cs.length c, .map (some b)] 63)).alloc (.cells #[] 3)) G 63 #[.slice A cs.length c, .map (some b)] := (Blk.new_at w2 _ _ hG).alloc _
  have hO : Own ((w2.alloc (.cells #[.slice A cs.length c, .map (some b)] 63)).alloc (.cells #[] 3)) (G + 1) 3 (.slice (some ⟨w2.heap.size + 1, 0, none⟩) 0 0) (ints (rowM cs 0)) := by
    have := Own.empty (w2.alloc (.cells #[.slice A cs.length c, .map (some b)] 63)) 3 3 (G + 1) (by omega)
    rw [hzB] at this
    exact this
  have hM3 := hM2.kept (belowG hbA none) (by simp)
  have hgw := gtr hb2 hbA
  have hbG : b < G := by rw [hG]; exact hM2.lt
  have hwG : w.heap.size ≤ G := by omega
  have hn1 : (n : Int) + 1 = ((n + 1 : Nat) : Int) := by omega
  have HGW := Lib.hid hgw
  clear hbA hM2 hzB
  generalize (w2.alloc (.cells #[.slice A cs.length c, .map (some b)] 63)).alloc (.cells #[] 3) = W at *
  rw [← hG] at hO ⊢
  have hGW : G < W.heap.size := hBX.lt
  clear hG hn1
  go_loopw [7, 25] (fun v s wr => ∃ (k : Nat) (A1 : Option Addr) (c1 : Nat) (K : List (List Int)), s = .int .i64 k ∧ k ≤ n + 1 ∧ v = .slice A1 k c1 ∧ Own wr (G + 1) 3 (.slice A1 k c1) (ints (rowM cs k)) ∧ MapM wr b cs K ∧ Blk wr G 63 #[.slice A cs.length c, .map (some b)] ∧ Below w.heap.size w wr) (fun _ s _ => n + 1 - (intOf s).toNat)
  case atStart => exact ⟨0, _, _, [], rfl, by omega, rfl, hO, hM3, hBX, hgw⟩
  case round =>
    clear hO hM3 hBX hgw HGW hGW hb2
    obtain ⟨k, A1, c1, K, rfl, hk, rfl, ho, hM, hBX, hb⟩ := hrel
    by_cases hlt : k < n + 1
    · have hltI : (k : Int) < (n : Int) + 1 := by omega
      have hk20 : k ≤ 20 := by omega
      have HSN := Lib.hid (rowM_succ cs k)
      have hP := hp_one k hk20
      have hzw := hb.size
      have hGl := hBX.lt
      have hCA : RdI ((wr.alloc (.cells #[.int .i64 k] 3)).drew) (wr.heap.size + 1) (some ⟨wr.heap.size, 0, none⟩) 1 [(k : Int)] := Rd.of_lit (cs := [.int .i64 (k : Int)]) (Blk.drew' (Blk.new wr 3 _)) (by omega) (by simp)
      have hbA1 : Below wr.heap.size wr ((wr.alloc (.cells #[.int .i64 k] 3)).drew) := (bel1 wr _).drew
      have hzA : (wr.alloc (.cells #[.int .i64 k] 3)).drew.heap.size = wr.heap.size + 1 := by
        show (wr.heap.push _).size = _
        simp
      have hF := filled_any (some ⟨wr.heap.size, 0, none⟩) 1 [(k : Int)] _ (wr.heap.size + 1) (by rw [hzA]; exact Nat.le_refl _) hCA (fun x hx => by simp at hx; omega) (by simp)
      rw [show [(k : Int)].length = 1 from rfl] at hF
      have HS4 : Hid (∀ W', Below wr.heap.size wr W' → W'.cell? ⟨G, 0, none⟩ = some (.slice A cs.length c) ∧ W'.cell? ⟨G, 1, none⟩ = some (.map (some b))) := fun W' hW => ⟨(hBX.below hW hGl).cell 0, (hBX.below hW hGl).cell 1⟩
      have HV : Hid (∀ W' A3 c3, Below wr.heap.size wr W' → OwnI W' (wr.heap.size + 1) (.slice A3 (nz [(k : Int)]).length c3) (nz [(k : Int)]) → Calls Try.prog 71 #[.agg #[.slice A cs.length c, .map (some b)], .slice A3 (nz [(k : Int)]).length c3, .int .i64 0, .int .i64 0] W' fun e w' =>
          e = .returned (.int .i64 (mz cs (nz [(k : Int)]) : Nat)) ∧ (∃ K', MapM w' b cs K') ∧ W'.grownBy w' (some b)) := fun W' A3 c3 hW ho3 =>
        valI cs HG.out A c B b (by omega) (nz [(k : Int)]) W' A3 c3 K hP (hM.kept (belowG hW none) (by simp)) (HH.out.below (hb.trans (hW.mono hzw)) hB) (ho3.rd rfl) (fun a ha => by subst ha; have := (ho3.lt a.block rfl).1; have := hM.lt; omega)
      obtain ⟨q, hq⟩ : ∃ q, q = nz [(k : Int)] := ⟨_, rfl⟩
      obtain ⟨u, hu⟩ : ∃ u, u = mz cs q := ⟨_, rfl⟩
      rw [← hq] at hF HV HSN
      rw [← hu] at HV HSN
      have HF := Lib.hid hF
      have q0 : wr.cell? ⟨G, 0, none⟩ = some (.slice A cs.length c) := hBX.cell 0
      have q1 : wr.cell? ⟨G, 1, none⟩ = some (.map (some b)) := hBX.cell 1
      have HO := Lib.hid ho; have HBX := Lib.hid hBX; have HB := Lib.hid hb; have HBA := Lib.hid hbA1; have HZA := Lib.hid hzA
      have E8 : Hid ((ints (rowM cs k)).length = k) := Lib.hid (by rw [ints_len, rowM_len])
      have hMl := hM.lt
      clear hF hu hq hP hCA hbA1 hzA ho hM hBX hb
      go_wp2
      go_region_held3 (fun w' => w'.cell? ⟨G, 0, none⟩ = some (.slice A cs.length c) ∧ w'.cell? ⟨G, 1, none⟩ = some (.map (some b))) (go_keep)
        (first
          | (go_at_call 72; refine (HF.out).mono ?_; rintro e w3 ⟨A3, c3, rfl, ho3, hb3⟩; have g3 := HBA.out.trans (hb3.mono (by rw [HZA.out]; omega)); rw [HZA.out] at ho3; have s3 := (HS4.out _ g3).1; have s3' := (HS4.out _ g3).2)
          | (go_at_call 71; refine (HV.out w3 A3 c3 g3 ho3).mono ?_; rintro e w4 ⟨rfl, ⟨K4, hM4⟩, hg4⟩; have hB4 := (HBX.out.below g3 hGl).grown hg4 (by simp; omega); have s4 := hB4.cell 0; have s4' := hB4.cell 1)
          | (have hO4 := ((HO.out.below g3).grownLow hg4 (by omega)).below (bel1 w4 (.cells #[.int .i64 u] 3)); refine step_append_rd (by rfl) (.tmp 28) (.tmp 34) 22 3 (.int .i64 0) 8 (by rfl) Try.underlying22 infoInt rfl (by omega) (G + 1) (.slice A1 k c1) (ints (rowM cs k)) (by rfl) (by exact hO4) _ _ _ _ [.int .i64 u] (by rfl) rfl (Rd.of_blk (Blk.new_at _ _ _ (by simp)) (Nat.lt_succ_self _)) (fun u hu => by simp at hu; subst hu; rfl) (by rw [E8.out]; simp; omega) (by have := g3.size; have := hg4.size; simp; omega) ?_; intro A5 c5 w5 ho5 hb5 hg5; rw [E8.out] at ho5 ⊢; have hB5 := (hB4.alloc (.cells #[.int .i64 u] 3)).grown hg5 (fun e => by have := (hO4.lt G e.symm).1; omega); have s5 : w5.cell? ⟨G, 0, none⟩ = some (.slice A cs.length c) := hB5.cell 0; have s5' : w5.cell? ⟨G, 1, none⟩ = some (.map (some b)) := hB5.cell 1; have hM5 := (hM4.kept (belowG (bel1 w4 (.cells #[.int .i64 u] 3)) none) (by simp)).kept hg5 (fun e => by have := (hO4.lt b e.symm).1; omega)))
      all_goals
        rw [List.length_singleton] at ho5 ⊢
        have e9 : ints (rowM cs k) ++ [.int .i64 u] = ints (rowM cs (k + 1)) := by rw [HSN.out, ints_snoc]
        rw [e9] at ho5
        have HO5 := Lib.hid ho5; have HM5 := Lib.hid hM5; have HB5 := Lib.hid hB5
        have HBB : Hid (Below w.heap.size w w5) := Lib.hid (((((HB.out.trans (g3.mono hzw)).grown hg4 (by have := g3.size; omega) (fun j hj => by injection hj with hj; omega)).trans ((bel1 w4 _).mono (by have := g3.size; have := hg4.size; omega)))).grown hg5 (by have := g3.size; have := hg4.size; simp; omega) fun j hj => by have := (hO4.lt j hj).1; omega)
        clear ho5 hM5 hB5 hb5 hg5 hO4 hB4 hM4 hg4 s4 s4' s3 s3' g3 hb3 ho3 e9 s5 s5'
        go_wp2
        go_roundw
        case rel => exact ⟨k + 1, A5, c5, K4, by go_num, by omega, rfl, HO5.out, HM5.out, HB5.out, HBB.out⟩
        case measure => simp [intOf]; omega
    · obtain rfl : k = n + 1 := by omega
      have HO := Lib.hid ho
      clear ho hM hBX
      go_wp2
      go_ret2
      exact ⟨A1, c1, rfl, own_ints.2 (HO.out.le (by omega)), hb⟩
end Go.Proofs.Ytdckgplmkigjcaa
namespace Go.Proofs.Ytdckgplmkigjcaa
open Go.RowKit Go.Maps
set_option linter.unusedVariables false

set_option maxRecDepth 100000 in
set_option maxHeartbeats 1600000 in
theorem rowS_loop (A : Option Addr) (c : Nat) (cs : List Int) (n : Nat) (w : World) (B : Nat) (hB : B ≤ w.heap.size) (h : RdI w B A c cs) (hg : goodCodeB cs = true) (hn : n ≤ 20) :
    Calls Try.prog 28 #[.slice A cs.length c, .int .i64 n] w fun e w' => ∃ A' c', e = .returned (.tuple #[.slice A' (n + 1) c', .bool true]) ∧ OwnI w' w.heap.size (.slice A' (n + 1) c') (rowM cs (n + 1)) ∧ Below w.heap.size w w' := by
  have HC := Lib.hid (goodCodeS_any A c cs w B h)
  rw [hg] at HC
  have HG := Lib.hid (goodCodeB_true.1 hg)
  have HH := Lib.hid h
  have hib : inB (n : Int) 0 20 = true := by simp [inB]; omega
  clear hg h
  go_enter Try.func28, Try.ntmps28
  go_wp2_with (first
    | (go_at_call 63; (with_reducible refine (HC.out).mono ?_); rintro e w1 ⟨rfl, rfl⟩)
    | (go_at_call 69; (with_reducible refine (l1In_any _ _ _ _).mono ?_); rintro e w1 ⟨rfl, rfl⟩; rw [hib])
    | (go_at_call 48; (with_reducible refine (new_any A c cs _).mono ?_); rintro e w2 ⟨g, gk, gv, rfl, hl1, hl2, hl3, hM2, hb2⟩))
  have hz2 := hb2.size
  have hbA := bel1 w2 (.cells #[] 3)
  have hM3 := hM2.below hbA
  have hgw := gtr hb2 hbA
  have hlt2 := hM2.lt
  obtain ⟨G, hG⟩ : ∃ G, G = w2.heap.size := ⟨_, rfl⟩
  have hO : Own (w2.alloc (.cells #[] 3)) G 3 (.slice (some ⟨w2.heap.size, 0, none⟩) 0 0) (ints (rowM cs 0)) := Own.empty w2 3 3 G (by omega)
  have hgG : g < G := by omega
  have hkG : gk < G := by omega
  have hvG : gv < G := by omega
  have hwG : w.heap.size ≤ G := by omega
  have hGW : G ≤ (w2.alloc (.cells #[] 3)).heap.size := by simp; omega
  clear hbA hM2 hlt2 hb2
  generalize w2.alloc (.cells #[] 3) = W at *
  rw [← hG] at hO ⊢
  clear hG
  go_loopw [7, 8] (fun v s wr => ∃ (k : Nat) (A1 : Option Addr) (c1 : Nat), s = .int .i64 k ∧ k ≤ n + 1 ∧ v = .slice A1 k c1 ∧ Own wr G 3 (.slice A1 k c1) (ints (rowM cs k)) ∧ (∃ ks vs, BookM wr g gk gv A c cs ks vs) ∧ Below w.heap.size w wr ∧ G ≤ wr.heap.size) (fun _ s _ => n + 1 - (intOf s).toNat)
  case atStart => exact ⟨0, _, _, rfl, by omega, rfl, hO, ⟨_, _, hM3⟩, hgw, hGW⟩
  case round =>
    clear hO hM3 hgw
    obtain ⟨k, A1, c1, rfl, hk, rfl, ho, ⟨ks, vs, hM⟩, hb, hGz⟩ := hrel
    by_cases hlt : k < n + 1
    · have hltI : (k : Int) ≤ (n : Int) := by omega
      have hk20 : k ≤ 20 := by omega
      have HSN := Lib.hid (rowM_succ cs k)
      have hP := hp_one k hk20
      have hzw := hb.size
      have hbA1 := bel1 wr (.cells #[.int .i64 k] 3)
      have hzA : (wr.alloc (.cells #[.int .i64 k] 3)).heap.size = wr.heap.size + 1 := by simp
      have hCA : RdI (wr.alloc (.cells #[.int .i64 k] 3)) (wr.heap.size + 1) (some ⟨wr.heap.size, 0, none⟩) 1 [(k : Int)] := Rd.of_lit (cs := [.int .i64 (k : Int)]) (Blk.new wr 3 _) (by omega) (by simp)
      have hF := sortS_any (some ⟨wr.heap.size, 0, none⟩) 1 [(k : Int)] _ (wr.heap.size + 1) (by rw [hzA]; exact Nat.le_refl _) hCA (by simp)
      rw [show [(k : Int)].length = 1 from rfl, srt_one] at hF
      obtain ⟨q, hq⟩ : ∃ q, q = nz [(k : Int)] := ⟨_, rfl⟩
      rw [← hq] at hF HSN hP
      have HF := Lib.hid hF; have HP := Lib.hid hP
      have HO := Lib.hid ho; have HB := Lib.hid hb; have HBA := Lib.hid hbA1; have HM := Lib.hid hM
      have E8 : Hid ((ints (rowM cs k)).length = k) := Lib.hid (by rw [ints_len, rowM_len])
      have hMl := hM.lt
      clear hF hq hP hCA hbA1 ho hM hb
      go_wp2_with fail
      ((with_reducible refine (HF.out).mono ?_); rintro e w3 ⟨A3, c3, rfl, ho3, hb3⟩)
      have g3 := gtr HBA.out hb3
      have hz3 := hb3.size
      have hv := valS cs HG.out A c B g gk gv (by omega) (by omega) q w3 A3 c3 ks vs HP.out (HM.out.below g3) (HH.out.below (HB.out.trans (g3.mono hzw)) hB) (ho3.rd rfl) (fun a ha => by subst ha; have := (ho3.lt a.block rfl).1; exact ⟨by omega, by omega⟩)
      obtain ⟨u, hu⟩ : ∃ u, u = mz cs q := ⟨_, rfl⟩
      rw [← hu] at hv HSN
      have HV := Lib.hid hv
      clear hv hu
      go_wp2_with fail
      ((with_reducible refine (HV.out).mono ?_); rintro e w4 ⟨rfl, ⟨ks4, vs4, hM4⟩, hT4⟩)
      have hz4 := hT4.size
      have hO4 := (HO.out.below g3).tw hT4 (fun j hj => by have := (HO.out.lt j hj).1; omega)
      have HO4 := Lib.hid hO4; have HM4 := Lib.hid hM4; have HT4 := Lib.hid hT4; have HG3 := Lib.hid g3
      clear hO4 hM4 hT4 g3 hb3 ho3
      go_wp2_with (at_builtin; refine append_one rfl _ _ 22 3 (.int .i64 0) 8 rfl Try.underlying22 infoInt rfl (by omega) G (.slice A1 k c1) (ints (rowM cs k)) rfl (HO4.out.below (bel1 _ _)) w4.heap.size (.int .i64 u) rfl ((Blk.new _ _ _).cell 0) rfl (by rw [E8.out]; omega) (by simp; omega) ?_; intro A5 c5 w5 ho5 hb5 hg5; rw [E8.out] at ho5 ⊢)
      have HO5 := Lib.hid ho5; have HG5 := Lib.hid hg5
      clear ho5 hb5 hg5
      go_roundw
      case rel =>
        have hz5 := HG5.out.size
        simp at hz5
        have hbase : ∀ j, (Value.slice A1 k c1).ownBlock = some j → G ≤ j := fun j hj => (HO4.out.lt j hj).1
        refine ⟨k + 1, A5, c5, by go_num, by omega, rfl, by rw [HSN.out, ints_snoc]; exact HO5.out, ⟨ks4, vs4, (HM4.out.below (bel1 _ _)).grown HG5.out fun j hj => by have := hbase j hj; exact ⟨by omega, by omega, by omega⟩⟩, ?_, by omega⟩
        exact ((Tw.below (HB.out.trans (HG3.out.mono hzw)) HT4.out (by omega) (by omega)).trans ((bel1 w4 _).mono (by omega))).grown HG5.out (by simp; omega) fun j hj => by have := hbase j hj; omega
      case measure => simp [intOf]; omega
    · obtain rfl : k = n + 1 := by omega
      have HO := Lib.hid ho
      clear ho hM
      go_wp2
      go_ret2
      exact ⟨A1, c1, rfl, own_ints.2 (HO.out.le (by omega)), hb⟩
end Go.Proofs.Ytdckgplmkigjcaa
namespace Go.Proofs.Ytdckgplmkigjcaa
open Go.RowKit
set_option linter.unusedVariables false

def rowB (cs : List Int) (n : Int) : Bool := goodCodeB cs && inB n 0 20
noncomputable def rowV (cs : List Int) (n : Int) : List Int := if rowB cs n = true then rowM cs (n.toNat + 1) else []
theorem rowB_of {cs : List Int} {n : Int} (h : rowB cs n = true) : goodCodeB cs = true ∧ ∃ k : Nat, n = k ∧ k ≤ 20 := by
  unfold rowB inB at h
  simp only [Bool.and_eq_true, decide_eq_true_eq] at h
  exact ⟨h.1, n.toNat, by omega, by omega⟩
theorem rowB_no {cs : List Int} {n : Int} (h : rowB cs n = false) (hg : goodCodeB cs = true) : n < 0 ∨ 20 < n := by
  unfold rowB inB at h
  rw [hg, Bool.true_and] at h
  apply Classical.byContradiction
  intro hh
  have : (decide (0 ≤ n) && decide (n ≤ 20)) = true := by simp; omega
  rw [this] at h; cases h
theorem rowV_len (cs : List Int) (n : Int) : (rowV cs n).length ≤ 21 := by
  unfold rowV
  split
  · rename_i h
    obtain ⟨_, k, rfl, hk⟩ := rowB_of h
    rw [rowM_len]; omega
  · simp

set_option maxHeartbeats 800000 in
theorem rowI_any (A : Option Addr) (c : Nat) (cs : List Int) (n : Int) (w : World) (B : Nat) (hB : B ≤ w.heap.size) (h : RdI w B A c cs) :
    Calls Try.prog 29 #[.slice A cs.length c, .int .i64 n] w fun e w' => ∃ A' c', e = .returned (.tuple #[.slice A' (rowV cs n).length c', .bool (rowB cs n)]) ∧ OwnI w' w.heap.size (.slice A' (rowV cs n).length c') (rowV cs n) ∧ Below w.heap.size w w' := by
  rcases hb : rowB cs n with _ | _
  · have e1 : rowV cs n = [] := by rw [rowV, hb]; rfl
    rw [e1]
    have HC := Lib.hid (goodCodeI_any A c cs w B h)
    rcases hg : goodCodeB cs with _ | _
    · rw [hg] at HC
      clear hg hb
      go_enter Try.func29, Try.ntmps29
      go_wp2_with (go_at_call 66; (with_reducible refine (HC.out).mono ?_); rintro e w1 ⟨rfl, rfl⟩)
      go_ret2
      exact ⟨none, 0, rfl, own_nil _ _ _, Below.refl _ _⟩
    · have hout := rowB_no hb hg
      rw [hg] at HC
      clear hg hb
      by_cases hn : n < 0
      · clear hout
        go_enter Try.func29, Try.ntmps29
        go_wp2_with (go_at_call 66; (with_reducible refine (HC.out).mono ?_); rintro e w1 ⟨rfl, rfl⟩)
        go_ret2
        exact ⟨none, 0, rfl, own_nil _ _ _, Below.refl _ _⟩
      · have hn2 : 20 < n := by omega
        clear hout
        go_enter Try.func29, Try.ntmps29
        go_wp2_with (go_at_call 66; (with_reducible refine (HC.out).mono ?_); rintro e w1 ⟨rfl, rfl⟩)
        go_ret2
        exact ⟨none, 0, rfl, own_nil _ _ _, Below.refl _ _⟩
  · obtain ⟨hg, k, rfl, hk⟩ := rowB_of hb
    have e1 : rowV cs k = rowM cs (k + 1) := by rw [rowV, hb]; simp
    rw [e1, rowM_len]
    exact rowI_loop A c cs k w B hB h hg hk

set_option maxHeartbeats 800000 in
theorem rowS_any (A : Option Addr) (c : Nat) (cs : List Int) (n : Int) (w : World) (B : Nat) (hB : B ≤ w.heap.size) (h : RdI w B A c cs) :
    Calls Try.prog 28 #[.slice A cs.length c, .int .i64 n] w fun e w' => ∃ A' c', e = .returned (.tuple #[.slice A' (rowV cs n).length c', .bool (rowB cs n)]) ∧ OwnI w' w.heap.size (.slice A' (rowV cs n).length c') (rowV cs n) ∧ Below w.heap.size w w' := by
  rcases hb : rowB cs n with _ | _
  · have e1 : rowV cs n = [] := by rw [rowV, hb]; rfl
    rw [e1]
    have HC := Lib.hid (goodCodeS_any A c cs w B h)
    rcases hg : goodCodeB cs with _ | _
    · rw [hg] at HC
      clear hg hb
      go_enter Try.func28, Try.ntmps28
      go_wp2_with (go_at_call 63; (with_reducible refine (HC.out).mono ?_); rintro e w1 ⟨rfl, rfl⟩)
      go_ret2
      exact ⟨none, 0, rfl, own_nil _ _ _, Below.refl _ _⟩
    · have hout : inB n 0 20 = false := by unfold rowB at hb; rw [hg, Bool.true_and] at hb; exact hb
      rw [hg] at HC
      clear hg hb
      go_enter Try.func28, Try.ntmps28
      go_wp2_with (first | (go_at_call 63; (with_reducible refine (HC.out).mono ?_); rintro e w1 ⟨rfl, rfl⟩) | (go_at_call 69; (with_reducible refine (l1In_any _ _ _ _).mono ?_); rintro e w1 ⟨rfl, rfl⟩; rw [hout]))
      go_ret2
      exact ⟨none, 0, rfl, own_nil _ _ _, Below.refl _ _⟩
  · obtain ⟨hg, k, rfl, hk⟩ := rowB_of hb
    have e1 : rowV cs k = rowM cs (k + 1) := by rw [rowV, hb]; simp
    rw [e1, rowM_len]
    exact rowS_loop A c cs k w B hB h hg hk

theorem RdI.of_own {w : World} {base : Nat} {A : Option Addr} {n c : Nat} {k : Int} (h : Own w base 3 (.slice A n c) (ints (numRow k n))) : RdI w w.heap.size A c (numRow k n) := Own.rd h
set_option maxRecDepth 100000 in
set_option maxHeartbeats 1600000 in
theorem lawRow (a : Option Addr) (len cap : Nat) (zs : List Int) (n : Int) (w : World) (h : IsRow .i64 w a len cap zs) (hn : (Lit.int .i64 n).wf = true) :
    Calls Try.prog 6 #[.slice a len cap, .int .i64 n] w fun e w' => e = .returned (.bool true) ∧ Below w.heap.size w w' := by
  clear hn
  obtain ⟨hr, hl⟩ := h.rd
  clear h
  generalize zs.take len = xs at hr hl
  subst hl
  have h1 := hr.len
  have h2 := hr.max
  by_cases hbig : 1048576 < xs.length
  · go_enter Try.func6, Try.ntmps6
    go_wp2
    go_ret
    exact ⟨rfl, Below.refl _ _⟩
  have hsm : xs.length ≤ 1048576 := by omega
  have g0 := Below.refl w.heap.size w
  have hRl := rowV_len xs n
  have HS := Lib.hid fun A c W => rowS_any A c xs n W W.heap.size (Nat.le_refl _)
  have HI := Lib.hid fun A c W => rowI_any A c xs n W W.heap.size (Nat.le_refl _)
  obtain ⟨R, hR⟩ : ∃ R, R = rowV xs n := ⟨_, rfl⟩
  obtain ⟨ok, hok⟩ : ∃ ok, ok = rowB xs n := ⟨_, rfl⟩
  rw [← hR, ← hok] at HS HI
  rw [← hR] at hRl
  clear hR hok
  have hbe : (ok != ok) = false := by cases ok <;> rfl
  have hRR : decide (R = R) = true := decide_eq_true rfl
  have hxx : decide (xs = xs) = true := decide_eq_true rfl
  go_enter Try.func6, Try.ntmps6
  go_wp2_with fail
  ((with_reducible refine (toIntS_any _ _ xs _ _ g0.size (hr.below g0 (Nat.le_refl _)) hsm).mono ?_); rintro e w1 ⟨A1, c1, rfl, ho1, hb1⟩)
  have g1 := gtr g0 hb1
  go_wp2_with fail
  ((with_reducible refine (HS.out A1 c1 _ (ho1.rd rfl)).mono ?_); rintro e w3 ⟨A3, c3, rfl, ho3, hb3⟩)
  have g3 := gtr g1 hb3
  have hs3 : RdI w3 w3.heap.size A3 c3 R := ho3.rd rfl
  clear ho1 ho3 hb1
  go_wp2_with fail
  ((with_reducible refine (toIntS_any _ _ xs _ _ g3.size (hr.below g3 (Nat.le_refl _)) hsm).mono ?_); rintro e w4 ⟨A4, c4, rfl, ho4, hb4⟩)
  have g4 := gtr g3 hb4
  have hs4 := hs3.below hb4 (Nat.le_refl _)
  have hz4 := hb4.size
  have HBLK4 : Hid (∀ k, (Value.slice A4 xs.length c4).ownBlock = some k → k < w4.heap.size) := fun k hk => ((own_ints.1 ho4).lt k hk).2
  clear hs3
  go_wp2_with fail
  ((with_reducible refine (HI.out A4 c4 _ (ho4.rd rfl)).mono ?_); rintro e w6 ⟨A6, c6, rfl, ho6, hb6⟩)
  have g6 := gtr g4 hb6
  have hz6 := hb6.size
  have hx6 := ho4.below hb6
  have hs6 := hs4.below hb6 (by omega)
  clear ho4 hs4 hb4 hb6
  clear hb3
  have hzw3 := g3.size
  go_wp2_with fail
  ((with_reducible refine (eqIntS_any _ _ _ _ R R _ _ (Nat.le_refl _) (ho6.rd rfl) (hs6.more (by omega))).mono ?_); rintro e w7 ⟨rfl, hb7⟩)
  have g7 := gtr g6 hb7
  have hz7 := hb7.size
  have ho7 := ho6.below hb7
  have hx7 := hx6.below hb7
  have hs7 := hs6.below hb7 (by omega)
  clear ho6 hx6 hs6 hb7
  go_wp2_with fail
  ((with_reducible refine (toIntS_any _ _ xs _ _ g7.size (hr.below g7 (Nat.le_refl _)) hsm).mono ?_); rintro e w8 ⟨A8, c8, rfl, hy8, hb8⟩)
  have g8 := gtr g7 hb8
  have hz8 := hb8.size
  have ho8 := ho7.below hb8
  have hx8 := hx7.below hb8
  have hs8 := hs7.below hb8 (by omega)
  clear ho7 hx7 hs7 hb8
  go_wp2_with fail
  ((with_reducible refine (eqIntS_any _ _ _ _ xs xs _ _ (Nat.le_refl _) (hx8.rd rfl) (hy8.rd rfl)).mono ?_); rintro e w9 ⟨rfl, hb9⟩)
  have g9 := gtr g8 hb9
  have hz9 := hb9.size
  have ho9 := ho8.below hb9
  have hx9 := own_ints.1 (hx8.below hb9)
  have hs9 := hs8.below hb9 (by omega)
  clear ho8 hx8 hs8 hb9 hy8
  have hb46 : ∀ k, (Value.slice A4 xs.length c4).ownBlock = some k → w3.heap.size ≤ k ∧ k < w4.heap.size := fun k hk => ⟨(hx9.lt k hk).1, HBLK4.out k hk⟩
  have HB46 := Lib.hid hb46; clear hb46
  go_wp2_with fail
  ((with_reducible refine (markRow_any _ _ _ _ _ _ hx9 (by decide) (by omega)).mono ?_); rintro e w10 ⟨rfl, _, hg10⟩)
  have hz10 := hg10.size
  have g10 : Below w.heap.size w w10 := g9.grown hg10 (by have := g9.size; omega) fun k hk => by have := HB46.out k hk; omega
  have hne6 : (Value.slice A6 R.length c6).ownBlock = none ∨ (Value.slice A6 R.length c6).ownBlock ≠ (Value.slice A4 xs.length c4).ownBlock := by
    rcases hob : (Value.slice A6 R.length c6).ownBlock with _ | k
    · exact .inl rfl
    · refine .inr fun e => ?_
      have := ((own_ints.1 ho9).lt k hob).1
      have := HB46.out k e.symm
      omega
  have ho10 := (own_ints.1 ho9).grown hg10 hne6
  have hs10 : RdI w10 w3.heap.size A3 c3 R := Rd.grown (lo := 0) hs9 (fun _ _ => Nat.zero_le _) hg10 (by omega) fun k hk => .inr (HB46.out k hk).1
  clear ho9 hx9 hs9 hg10 hne6
  go_wp2_with fail
  ((with_reducible refine (eqIntS_any _ _ _ _ R R _ _ (Nat.le_refl _) ((own_ints.2 ho10).rd rfl) (hs10.more (by omega))).mono ?_); rintro e w11 ⟨rfl, hb11⟩)
  have g11 := gtr g10 hb11
  have hz11 := hb11.size
  have ho11 := ho10.below hb11
  have hs11 := hs10.below hb11 (by omega)
  clear ho10 hs10 hb11
  have hb6k : ∀ k, (Value.slice A6 R.length c6).ownBlock = some k → w4.heap.size ≤ k := fun k hk => (ho11.lt k hk).1
  go_wp2_with fail
  ((with_reducible refine (markRow_any _ _ _ _ _ _ ho11 (by decide) (by omega)).mono ?_); rintro e w12 ⟨rfl, ho12, hg12⟩)
  have hz12 := hg12.size
  have g12 : Below w.heap.size w w12 := g11.grown hg12 (by have := g11.size; omega) fun k hk => by have := hb6k k hk; omega
  have hs12 : RdI w12 w3.heap.size A3 c3 R := Rd.grown (lo := 0) hs11 (fun _ _ => Nat.zero_le _) hg12 (by omega) fun k hk => .inr (by have := hb6k k hk; omega)
  clear ho11 hs11 hg12 hb6k
  have hnr : RdI w12 w12.heap.size A6 c6 (numRow 1 R.length) := RdI.of_own ho12
  go_wp2_with fail
  ((with_reducible refine (heldRow_any _ _ _ _ _ _ hnr (by decide) (by omega)).mono ?_); rintro e w12' ⟨rfl, rfl⟩)
  go_wp2_with fail
  ((with_reducible refine (toIntS_any _ _ xs _ _ g12.size (hr.below g12 (Nat.le_refl _)) hsm).mono ?_); rintro e w13 ⟨A13, c13, rfl, ho13, hb13⟩)
  have g13 := gtr g12 hb13
  have hz13 := hb13.size
  have hs13 := hs12.below hb13 (by omega)
  have hn13 := hnr.below hb13 (Nat.le_refl _)
  clear hs12 hb13
  go_wp2_with fail
  ((with_reducible refine (HI.out A13 c13 _ (ho13.rd rfl)).mono ?_); rintro e w15 ⟨A15, c15, rfl, ho15, hb15⟩)
  have g15 := gtr g13 hb15
  have hz15 := hb15.size
  have hs15 := hs13.below hb15 (by omega)
  have hn15 := hn13.below hb15 (by omega)
  clear hs13 hn13 hb15
  go_wp2_with fail
  ((with_reducible refine (eqIntS_any _ _ _ _ R R _ _ (Nat.le_refl _) (ho15.rd rfl) (hs15.more (by omega))).mono ?_); rintro e w16 ⟨rfl, hb16⟩)
  have g16 := gtr g15 hb16
  have hn16 := hn15.below hb16 (by omega)
  go_wp2_with fail
  ((with_reducible refine (heldRow_any _ _ _ _ _ _ hn16 (by decide) (by omega)).mono ?_); rintro e w17 ⟨rfl, rfl⟩)
  go_wp2
  go_ret
  exact ⟨rfl, g16⟩
end Go.Proofs.Ytdckgplmkigjcaa
namespace Go.Proofs.Ytdckgplmkigjcaa
open Go.RowKit
set_option linter.unusedVariables false

theorem Mov.below {w w' : World} {lo : Nat} {v : Value} {b : Nat} {P : List Int → Prop} (h : Mov w lo v b P) (hb : Below w.heap.size w w') : Mov w' lo v b P := by
  obtain ⟨xss, A, c, h1, h2, r⟩ := h
  exact ⟨xss, A, c, h1, (h2.below hb (Nat.le_refl _)).more hb.size, r⟩
theorem Mov.tw {w w' : World} {lo x y : Nat} {v : Value} {b : Nat} {P : List Int → Prop} (h : Mov w lo v b P) (ht : Tw w w' x y) (hx : x < lo) (hy : y < lo) : Mov w' lo v b P := by
  obtain ⟨xss, A, c, h1, h2, r⟩ := h
  exact ⟨xss, A, c, h1, (h2.tw ht (Nat.le_refl _) (.inl hx) (.inl hy)).more ht.size, r⟩

set_option maxRecDepth 100000 in
set_option maxHeartbeats 3200000 in
theorem movesB_any (cs : List Int) (hg : goodCode cs) (Ac : Option Addr) (cc B0 g gk gv : Nat) (hk0 : B0 ≤ gk) (hv0 : B0 ≤ gv) (p : List Int) (w : World) (A : Option Addr) (c : Nat) (ks vs : List Int) (hp : Hp 20 p) (hM : BookM w g gk gv Ac cc cs ks vs) (hcode : RdI w B0 Ac cc cs) (hr : RdI w w.heap.size A c p) (hne : ∀ a, A = some a → a.block ≠ gk ∧ a.block ≠ gv) :
    Calls Try.prog 57 #[.pointer (some ⟨g, 0, none⟩), .slice A p.length c] w fun e w' =>
      (∃ v, e = .returned v ∧ Mov w' w.heap.size v 200000 (fun q => optP cs p q ∧ mz cs q = 0)) ∧ (∃ ks' vs', BookM w' g gk gv Ac cc cs ks' vs') ∧ Tw w w' gk gv := by
  have HP := Lib.hid hp; have HNE := Lib.hid hne
  have hlen := hp.len
  obtain ⟨hgl, hgkl, hgvl⟩ := hM.lt
  have hrl := hr.len
  have hrm := hr.max
  have HR := Lib.hid hr; have HCODE := Lib.hid hcode; have HG := Lib.hid hg
  have hM2 := hM.below (bel1 w (.cells #[] 22))
  have hT2 := Tw.of_below (a := gk) (b := gv) (bel1 w (.cells #[] 22))
  have hm2 : Mov (w.alloc (.cells #[] 22)) w.heap.size (.slice (some ⟨w.heap.size, 0, none⟩) 0 0) (0 * 10000) (fun q => optU cs p 0 q ∧ mz cs q = 0) :=
    ⟨[], some ⟨w.heap.size, 0, none⟩, 0, rfl, ⟨[], Rd.of_lit (cs := []) (Blk.new w 22 #[]) (by simp) (by simp), fun a ha => by injection ha with ha; subst ha; exact Nat.le_refl _, RowsAt.nil⟩, List.Pairwise.nil, by simp, fun xs => ⟨fun h => (by cases h), fun h => absurd h.1 (optU_zero cs p xs)⟩⟩
  clear hM hr hcode hp hne hg
  go_enter Try.func57, Try.ntmps57
  go_wp2
  generalize w.alloc (.cells #[] 22) = w2 at *
  go_loopw [5, 6] (fun v s wr => ∃ n : Nat, s = .int .i64 n ∧ n ≤ p.length ∧ Mov wr w.heap.size v (n * 10000) (fun q => optU cs p n q ∧ mz cs q = 0) ∧ (∃ ks vs, BookM wr g gk gv Ac cc cs ks vs) ∧ Tw w wr gk gv) (fun _ s _ => p.length - (intOf s).toNat)
  case atStart => exact ⟨0, rfl, by omega, hm2, ⟨ks, vs, hM2⟩, hT2⟩
  case round =>
    clear hM2 hT2 hm2
    obtain ⟨n, rfl, hn, hm, ⟨ks, vs, hM⟩, hT⟩ := hrel
    have HM := Lib.hid hm; clear hm
    have hzr := hT.size
    by_cases hlt : n < p.length
    · have hx20 := HP.out.le (gi_mem hlt)
      have q0 : wr.cell? ⟨g, 0, none⟩ = some (.slice Ac cs.length cc) := hM.1.cell 0
      have hrp := HR.out.tw hT (Nat.le_refl _) HNE.out
      obtain ⟨b, o, hbo, hbB, hc⟩ := hrp.at (j := n) hlt
      have hcn := hc n hlt
      subst hbo
      obtain ⟨x, hx⟩ := Int.eq_ofNat_of_zero_le (show 0 ≤ gi p n by omega)
      rw [hx] at hcn
      have hxx : x ≤ 20 := by omega
      have HXN : Hid ((gi p n).toNat = x) := Lib.hid (by omega)
      have HMVS := Lib.hid (moves_any Ac cc cs x wr.drew wr.heap.size (Nat.le_refl _) ((HCODE.out.twLow hT (Nat.le_trans hk0 (Nat.le_of_lt hgkl)) hk0 hv0).more (by omega) |>.below (gdrew (a := wr)) (Nat.le_refl _)) (by omega) HG.out)
      have HBM := Lib.hid hM; have HT := Lib.hid hT
      clear hc hx hx20 hrp hM hT
      go_wp2
      refine wp_region_tail 8 (by kernel_rfl) (by kernel_rfl) ?_
      simp only [List.take_succ_cons, List.take_zero, List.drop_succ_cons, List.drop_zero]
      repeat (go_big_quiet_step (fail))
      refine wpQuiet_nil ?_
      go_wp2_with (go_at_call 58; (with_reducible refine (HMVS.out).mono ?_); rintro e w1 ⟨⟨v1, rfl, M, AM, cM, rfl, hrM, hsM, hlM, hmM⟩, hbM⟩)
      have g1 := gtr (gdrew (a := wr)) hbM
      have hm1 := (HM.out.below g1).congr (b' := n * 10000 + 0) (by omega) (fun q => and_congr (reaP_zero cs p n M q) Iff.rfl)
      have hM1 := HBM.out.below g1
      have hT1 := HT.out.below' g1
      have hz1a := g1.size
      obtain ⟨lo1, hlo1⟩ : ∃ lo1, lo1 = wr.heap.size := ⟨_, rfl⟩
      obtain ⟨B1, hB1⟩ : ∃ B1, B1 = w1.heap.size := ⟨_, rfl⟩
      have hrM1 : RdR w1 lo1 B1 AM cM M := by rw [hlo1, hB1]; exact hrM
      have hwl : w.heap.size ≤ lo1 := by omega
      have hB1w : B1 ≤ w1.heap.size := by omega
      have HMM := Lib.hid hmM; have HLM := Lib.hid hlM
      have HEND := Lib.hid (reaP_end cs p n hlt M (by rw [HXN.out]; exact HMM.out))
      clear hrM hsM hlM hmM hbM g1 HM HBM HT q0 hcn hlo1 hB1 hz1a hzr
      go_wp2
      go_loopw [5, 8] (fun v s wi => ∃ j : Nat, s = .int .i64 j ∧ j ≤ M.length ∧ Mov wi w.heap.size v (n * 10000 + j) (fun q => reaP cs p n M j q ∧ mz cs q = 0) ∧ (∃ ks vs, BookM wi g gk gv Ac cc cs ks vs) ∧ Tw w wi gk gv ∧ RdR wi lo1 B1 AM cM M ∧ B1 ≤ wi.heap.size) (fun _ s _ => M.length - (intOf s).toNat)
      case atStart => exact ⟨0, rfl, by omega, hm1, ⟨ks, vs, hM1⟩, hT1, hrM1, hB1w⟩
      case round =>
        clear hm1 hM1 hT1 hrM1 hB1w
        obtain ⟨j, rfl, hj, hm, ⟨ks, vs, hM⟩, hT, hrM, hBw⟩ := hrel
        obtain ⟨wi, rfl⟩ : ∃ wi, wi = wr := ⟨_, rfl⟩
        have hLM := HLM.out
        have hzi := hT.size
        obtain ⟨xss, A1, c1, rfl, hrd, hso, hxl, hmem⟩ := hm
        have HSo := Lib.hid hso; have HMem := Lib.hid hmem; have HRD := Lib.hid hrd
        clear hso hmem hrd
        by_cases hlt2 : j < M.length
        · obtain ⟨bM, oM, rfl, hbM, hcM⟩ := hrM.at (j := j) hlt2
          obtain ⟨Aj, cj, hcj, hrj⟩ := hcM j hlt2
          clear hcM
          have hmv : isMv cs (gi p n).toNat (gl M j) := by rw [HXN.out]; exact (HMM.out _).1 (by rw [gl_lt hlt2]; exact List.getElem_mem hlt2)
          have hpos := isMv_pos hmv
          have hp2 := hp_aft HP.out hlt hmv
          have hp0 := hp_aft0 HP.out hlt hmv
          have HSUCC := Lib.hid (reaP_succ cs p n M j)
          obtain ⟨mv, hmvn⟩ : ∃ mv, mv = gl M j := ⟨_, rfl⟩
          rw [← hmvn] at hmv hpos hp2 hp0 hcj hrj HSUCC
          clear hmvn
          have hca := afterS_any (some ⟨b, o, none⟩) Aj c cj n p mv wi wi.heap.size (Nat.le_refl _) ((HR.out.tw hT (Nat.le_refl _) HNE.out).more hzi) (hrj.more hBw) hlt (by omega) (by omega) hp0.1
          have HCA := Lib.hid hca; have HP2 := Lib.hid hp2.1
          have HBM := Lib.hid hM; have HT := Lib.hid hT; have HRM := Lib.hid hrM
          clear hca hp2 hp0 hpos hmv hrj hM hT hrM
          go_wp2_with fail
          ((with_reducible refine (HCA.out).mono ?_); rintro e w3 ⟨A3, c3, rfl, ho3, hb3⟩)
          have hM3 := HBM.out.below hb3
          have hz3 := hb3.size
          have hT3 := HT.out.below' hb3
          have hcall := valS cs HG.out Ac cc B0 g gk gv hk0 hv0 (aft p n mv) w3 A3 c3 ks vs HP2.out hM3 (HCODE.out.twLow hT3 (Nat.le_trans hk0 (Nat.le_of_lt hgkl)) hk0 hv0) (ho3.rd rfl) (fun a ha => by subst ha; have := (ho3.lt a.block rfl).1; exact ⟨by omega, by omega⟩)
          obtain ⟨q, hq⟩ : ∃ q, q = aft p n mv := ⟨_, rfl⟩
          rw [← hq] at hcall HSUCC ho3 ⊢
          obtain ⟨u, hu⟩ : ∃ u, u = mz cs q := ⟨_, rfl⟩
          rw [← hu] at hcall
          have HU := Lib.hid hu
          have HCALL := Lib.hid hcall
          have HRD3 := Lib.hid ((HRD.out.below hb3 (Nat.le_refl _)).more hz3)
          have HRM3 := Lib.hid (HRM.out.below hb3 hBw)
          have HT3 := Lib.hid hT3; have HO3 := Lib.hid ho3
          clear hcall hM3 ho3 hT3 hb3 hu hq
          go_wp2_with fail
          ((with_reducible refine (HCALL.out).mono ?_); rintro e w4 ⟨rfl, ⟨ks4, vs4, hM4⟩, hT4⟩)
          have hz4 := hT4.size
          have HRD4 := Lib.hid ((HRD3.out.tw hT4 (Nat.le_refl _) (.inl (by omega)) (.inl (by omega))).more hz4)
          have HRM4 := Lib.hid (HRM3.out.tw hT4 (by omega) (.inl (by omega)) (.inl (by omega)))
          have HT4 := Lib.hid (HT3.out.trans hT4)
          have HM4 := Lib.hid hM4
          have hlo3 := Lo.ownI HO3.out
          have HX4 := Lib.hid ((((HO3.out.rd rfl).tw hT4 (Nat.le_refl _) (fun a ha => by have := hlo3 a ha; exact ⟨by omega, by omega⟩))).more hz4)
          have HLO3 := Lib.hid (hlo3.le hzi)
          clear hM4 hT4 hlo3
          by_cases hu0 : u = 0
          · have ht : ((u : Int) == 0) = true := by simp [hu0]
            have HU0 := Lib.hid hu0
            clear hu0
            go_wp2_with fail
            ((with_reducible refine (put_any A1 A3 c1 c3 xss q w4 w.heap.size w4.heap.size (Nat.le_refl _) HRD4.out HX4.out (by omega) HLO3.out (by omega)).mono ?_); rintro e w5 ⟨A5, c5, rfl, hr5, hb5⟩)
            have hz5 := hb5.size
            have HR5 := Lib.hid hr5; have HB5 := Lib.hid hb5
            clear hr5 hb5
            go_wp2
            go_roundw
            case rel =>
              refine ⟨j + 1, by go_num, by omega, ⟨_, A5, c5, rfl, HR5.out, sorted_putL HSo.out, by have := len_putL xss q; omega, fun ys => ?_⟩, ⟨ks4, vs4, HM4.out.below HB5.out⟩, HT4.out.below' HB5.out, HRM4.out.below HB5.out (by omega), by omega⟩
              show _ ↔ (reaP cs p n M (j + 1) ys ∧ mz cs ys = 0)
              rw [mem_putL, HMem.out, ← HSUCC.out]
              constructor
              · rintro (⟨h1, h2⟩ | rfl)
                · exact ⟨.inl h1, h2⟩
                · exact ⟨.inr rfl, by rw [← HU.out, HU0.out]⟩
              · rintro ⟨h1 | h1, h2⟩
                · exact .inl ⟨h1, h2⟩
                · exact .inr h1
            case measure => simp [intOf]; omega
          · have ht : ((u : Int) == 0) = false := by simp; omega
            have HU0 := Lib.hid hu0
            clear hu0
            go_wp2
            go_roundw
            case rel =>
              refine ⟨j + 1, by go_num, by omega, ⟨xss, A1, c1, rfl, HRD4.out, HSo.out, by omega, fun ys => ?_⟩, ⟨ks4, vs4, HM4.out⟩, HT4.out, HRM4.out, by omega⟩
              show _ ↔ (reaP cs p n M (j + 1) ys ∧ mz cs ys = 0)
              rw [HMem.out, ← HSUCC.out]
              constructor
              · rintro ⟨h1, h2⟩; exact ⟨.inl h1, h2⟩
              · rintro ⟨h1 | h1, h2⟩
                · exact ⟨h1, h2⟩
                · rw [h1, ← HU.out] at h2; exact absurd h2 HU0.out
            case measure => simp [intOf]; omega
        · obtain rfl : j = M.length := by omega
          have HBM := Lib.hid hM; have HT := Lib.hid hT
          have HMV : Hid (Mov wi w.heap.size (.slice A1 xss.length c1) ((n + 1) * 10000) (fun q => optU cs p (n + 1) q ∧ mz cs q = 0)) := Lib.hid ⟨xss, A1, c1, rfl, HRD.out, HSo.out, by omega, fun ys => (HMem.out ys).trans (and_congr (HEND.out ys) Iff.rfl)⟩
          clear hM hT hrM
          go_wp2
          go_roundw
          case rel => exact ⟨n + 1, by go_num, by omega, HMV.out, ⟨ks, vs, HBM.out⟩, HT.out⟩
          case measure => simp [intOf]; omega
    · obtain rfl : n = p.length := by omega
      have HMV := Lib.hid (HM.out.congr (b' := 200000) (by omega) (fun q => and_congr (optU_end cs p q) (Iff.rfl (a := mz cs q = 0))))
      have HBM := Lib.hid hM
      clear HM hM
      go_wp2
      go_ret
      exact ⟨⟨_, rfl, HMV.out⟩, ⟨ks, vs, HBM.out⟩, hT⟩
end Go.Proofs.Ytdckgplmkigjcaa
namespace Go.Proofs.Ytdckgplmkigjcaa
open Go.RowKit
set_option linter.unusedVariables false

theorem gn20 (cs : List Int) (hg : goodCode cs) (h : Nat) (hh : h ≤ 20) : gn (V cs 21) h ≤ 255 := by
  have hm := V_vals cs 21 h (by rw [V_len]; omega)
  have hb : gn (V cs 21) h ≤ ((List.range 6).flatMap fun j => nats (0 :: gn (V cs 21) (h - (j + 1)) :: (List.range 9).map fun a => gn (V cs 21) (a + 1) ^^^ gn (V cs 21) (h - (j + 1) - (a + 1)))).length := by
    refine few_pre fun x hx => ?_
    obtain ⟨j, h1, h2, h3, hd⟩ := hm.2 x hx
    refine List.mem_flatMap.2 ⟨j, List.mem_range.2 (by have := hg.2.1; omega), List.mem_map.2 ⟨x, ?_, rfl⟩⟩
    rcases hd with ⟨_, _, rfl⟩ | ⟨_, _, rfl⟩ | ⟨_, a, ha, _, ha2, rfl⟩
    · exact List.mem_cons_self
    · exact List.mem_cons_of_mem _ List.mem_cons_self
    · refine List.mem_cons_of_mem _ (List.mem_cons_of_mem _ (List.mem_map.2 ⟨a - 1, List.mem_range.2 (by omega), ?_⟩))
      show gn _ (a - 1 + 1) ^^^ gn _ (h - (j + 1) - (a - 1 + 1)) = _
      rw [show a - 1 + 1 = a by omega]
  refine Nat.le_trans hb ?_
  rw [List.length_flatMap]
  simp only [nats_len, List.length_cons, List.length_map, List.length_range]
  decide
theorem small20 (cs : List Int) (hg : goodCode cs) : small255 (V cs 21) := fun i hi => gn20 cs hg i (by rw [V_len] at hi; omega)

open Classical in
noncomputable def hasMv (cs : List Int) (n : Nat) : Bool := decide (∃ xs, isMv cs n xs)
noncomputable def nzV (cs : List Int) (n : Nat) : Bool := ((gn (V cs 21) n : Nat) : Int) != 0
noncomputable def nzM (cs : List Int) (n : Nat) : Bool := ((mz cs (nz [(n : Int)]) : Nat) : Int) != 0
noncomputable def unl (cs : List Int) (n : Nat) : Bool := hasMv cs n && (nzV cs n != nzM cs n)
/-- r is the first heap whose winner differs, -1 if there is none. -/
def FuP (cs : List Int) (r : Int) : Prop :=
  (∃ n : Nat, 1 ≤ n ∧ n ≤ 20 ∧ unl cs n = true ∧ (∀ j : Nat, 1 ≤ j → j < n → unl cs j = false) ∧ r = n) ∨ ((∀ j : Nat, 1 ≤ j → j ≤ 20 → unl cs j = false) ∧ r = -1)
theorem FuP.unique {cs : List Int} {r s : Int} (h : FuP cs r) (k : FuP cs s) : r = s := by
  rcases h with ⟨n, h1, h2, h3, h4, rfl⟩ | ⟨h1, rfl⟩
  · rcases k with ⟨m, k1, k2, k3, k4, rfl⟩ | ⟨k1, rfl⟩
    · rcases Nat.lt_trichotomy n m with e | e | e
      · rw [k4 n h1 e] at h3; cases h3
      · rw [e]
      · rw [h4 m k1 e] at k3; cases k3
    · rw [k1 n h1 h2] at h3; cases h3
  · rcases k with ⟨m, k1, k2, k3, k4, rfl⟩ | ⟨k1, rfl⟩
    · rw [h1 m k1 k2] at k3; cases k3
    · rfl
def FuQ (cs : List Int) (r : Int) : Prop := if goodCodeB cs = true then FuP cs r else r = -1
theorem FuQ.unique {cs : List Int} {r s : Int} (h : FuQ cs r) (k : FuQ cs s) : r = s := by
  unfold FuQ at h k
  split at h
  · rename_i e
    rw [if_pos e] at k
    exact h.unique k
  · rename_i e
    rw [if_neg e] at k
    rw [h, k]
theorem hasMv_len {cs : List Int} {n : Nat} {M : List (List Int)} (hm : ∀ xs, xs ∈ M ↔ isMv cs n xs) : hasMv cs n = decide ((0 : Int) < (M.length : Int)) := by
  unfold hasMv
  refine decide_eq_decide.2 ⟨fun ⟨xs, h⟩ => ?_, fun h => ?_⟩
  · have := List.length_pos_of_mem ((hm xs).2 h)
    omega
  · obtain ⟨x, hx⟩ := List.exists_mem_of_length_pos (l := M) (by omega)
    exact ⟨x, (hm x).1 hx⟩
theorem hasMv_lenF {cs : List Int} {n : Nat} (m : Bool) (h : m = hasMv cs n) (M : List (List Int)) (hm : ∀ xs, xs ∈ M ↔ isMv cs n xs) : if m = true then ∃ l, M.length = l + 1 else M.length = 0 := by
  have e := hasMv_len hm
  rw [← h] at e
  cases m
  · have e2 := of_decide_eq_false e.symm
    simp only [Bool.false_eq_true, ↓reduceIte]
    omega
  · have e2 := of_decide_eq_true e.symm
    simp only [↓reduceIte]
    exact ⟨M.length - 1, by omega⟩
theorem gi_rowM (cs : List Int) (n k : Nat) (h : k < n) : gi (rowM cs n) k = ((mz cs (nz [(k : Int)]) : Nat) : Int) := by
  have e : k < (rowM cs n).length := by rw [rowM_len]; exact h
  simp [gi, rowM, h]

set_option maxRecDepth 100000 in
set_option maxHeartbeats 1600000 in
theorem fuS_any (A : Option Addr) (c : Nat) (cs : List Int) (w : World) (B : Nat) (hB : B ≤ w.heap.size) (h : RdI w B A c cs) :
    Calls Try.prog 34 #[.slice A cs.length c] w fun e w' => ∃ r : Int, e = .returned (.int .i64 r) ∧ FuQ cs r ∧ Below w.heap.size w w' := by
  have HC := Lib.hid (goodCodeS_any A c cs w B h)
  rcases hg : goodCodeB cs with _ | _
  · have hq : FuQ cs (-1) := by unfold FuQ; rw [hg]; rfl
    have HQ := Lib.hid hq
    rw [hg] at HC
    clear hg hq
    go_enter Try.func34, Try.ntmps34
    go_wp2_with (go_at_call 63; (with_reducible refine (HC.out).mono ?_); rintro e w1 ⟨rfl, rfl⟩)
    go_ret
    exact ⟨-1, rfl, HQ.out, Below.refl _ _⟩
  · have HQ : Hid (∀ r, FuP cs r → FuQ cs r) := Lib.hid fun r hr => by unfold FuQ; rw [hg]; exact hr
    have e1 : rowB cs 20 = true := by unfold rowB; rw [hg]; rfl
    have e2 : rowV cs 20 = rowM cs 21 := by unfold rowV; rw [e1]; rfl
    have hrow := fun A c w B hB h => rowS_any A c cs 20 w B hB h
    rw [e2, e1, rowM_len] at hrow
    have HROW := Lib.hid hrow
    have HG := Lib.hid (goodCodeB_true.1 hg)
    have HH := Lib.hid h
    have hval := fun w hB h => valuesS_any A c cs 20 w B hB h (by omega) HG.out
    rw [show ((20 : Nat) : Int) = 20 from rfl] at hval
    have HVAL := Lib.hid hval
    rw [hg] at HC
    clear hg h e1 e2 hrow hval
    go_enter Try.func34, Try.ntmps34
    go_wp2_with (first
      | (go_at_call 63; (with_reducible refine (HC.out).mono ?_); rintro e w1 ⟨rfl, rfl⟩)
      | (go_at_call 28; (with_reducible refine (HROW.out A c w B hB HH.out).mono ?_); rintro e w2 ⟨A2, c2, rfl, ho2, hb2⟩)
      | (go_at_call 73; (with_reducible refine (HVAL.out w2 (by have := hb2.size; omega) (HH.out.below hb2 hB)).mono ?_); rintro e w3 ⟨⟨A3, c3, rfl, ho3, hb3⟩, hs3⟩))
    have hr2 : RdI w3 w2.heap.size A2 c2 (rowM cs 21) := ((ho2.rd rfl).below hb3 (Nat.le_refl _))
    have hr3 : RdI w3 w3.heap.size A3 c3 (nats (V cs 21)) := ho3.rd rfl
    have h15 : RdI w3 B A c cs := HH.out.below (gtr hb2 hb3) hB
    have g3 := gtr hb2 hb3
    have hz2 := hb2.size
    have hz3 := hb3.size
    have e3 : (nats (V cs (20 + 1))).length = 21 := by rw [nats_len, V_len]
    rw [e3]
    clear ho2 ho3 hb2 hb3 e3
    generalize w2.heap.size = B2 at *
    have HR2 := Lib.hid hr2; have HR3 := Lib.hid (hr3)
    clear hr2 hr3
    go_loopw [6] (fun s wr => ∃ k : Nat, s = .int .i64 k ∧ 1 ≤ k ∧ k ≤ 21 ∧ Below w3.heap.size w3 wr ∧ ∀ j : Nat, 1 ≤ j → j < k → unl cs j = false) (fun s _ => 21 - (intOf s).toNat)
    case atStart => exact ⟨1, rfl, by omega, by omega, Below.refl _ _, fun j h1 h2 => by omega⟩
    case round =>
      obtain ⟨k, rfl, hk1, hk, hb, hn⟩ := hrel
      have HN := Lib.hid hn; clear hn
      have hzr := hb.size
      by_cases hlt : k < 21
      · have hltI : (k : Int) ≤ 20 := by omega
        obtain ⟨b2, o2, hA2, hB2, hc2⟩ := (HR2.out.below hb hz3).at (j := k) (by rw [rowM_len]; omega)
        obtain ⟨b3, o3, hA3, hB3, hc3⟩ := (HR3.out.below hb (Nat.le_refl _)).at (j := k) (by rw [nats_len, V_len]; omega)
        have q2 := hc2 k (by rw [rowM_len]; omega)
        have q3 := hc3 k (by rw [nats_len, V_len]; omega)
        subst hA2 hA3
        rw [gi_rowM cs 21 k (by omega)] at q2
        rw [gi_nats] at q3
        have HMV := Lib.hid (moves_any A c cs k wr.drew B (by have : wr.drew.heap.size = wr.heap.size := rfl; omega) ((h15.below hb (by omega)).below (gdrew (a := wr)) (by omega)) (by omega) HG.out)
        clear hc2 hc3
        have hnzM : (((mz cs (nz [(k : Int)]) : Nat) : Int) != 0) = nzM cs k := rfl
        have hnzV : (((gn (V cs 21) k : Nat) : Int) != 0) = nzV cs k := rfl
        have HUN : Hid (unl cs k = (hasMv cs k && (nzV cs k != nzM cs k))) := Lib.hid rfl
        have HNX : Hid (unl cs k = false → ∀ j : Nat, 1 ≤ j → j < k + 1 → unl cs j = false) := Lib.hid fun h j h1 h2 => if e : j = k then e ▸ h else HN.out j h1 (by omega)
        obtain ⟨u, hu⟩ : ∃ u, u = mz cs (nz [(k : Int)]) := ⟨_, rfl⟩
        obtain ⟨v, hv⟩ : ∃ v, v = gn (V cs 21) k := ⟨_, rfl⟩
        rw [← hu] at q2 hnzM
        rw [← hv] at q3 hnzV
        obtain ⟨a, ha⟩ : ∃ a, a = nzV cs k := ⟨_, rfl⟩
        obtain ⟨b, hb1⟩ : ∃ b, b = nzM cs k := ⟨_, rfl⟩
        obtain ⟨m, hm⟩ : ∃ m, m = hasMv cs k := ⟨_, rfl⟩
        rw [← ha] at hnzV HUN
        rw [← hb1] at hnzM HUN
        have hlen := hasMv_lenF m hm
        rw [← hm] at HUN
        have HS4 : Hid (∀ W', Below wr.heap.size wr W' → W'.cell? ⟨b2, o2 + k, none⟩ = some (.int .i64 u) ∧ W'.cell? ⟨b3, o3 + k, none⟩ = some (.int .i64 v)) := Lib.hid fun W' hW => ⟨(hW.cell (p := ⟨b2, o2 + k, none⟩) (by show b2 < _; omega)).trans q2, (hW.cell (p := ⟨b3, o3 + k, none⟩) (by show b3 < _; omega)).trans q3⟩
        have HB := Lib.hid hb
        clear hu hv ha hb1 hm hb h15
        have hkb : (0 : Int) ≤ k := by omega
        have hkl : (k : Int) < 21 := by omega
        rcases m with _ | _
        · replace hlen : ∀ (M : List (List Int)) (hm : ∀ xs, xs ∈ M ↔ isMv cs k xs), M.length = 0 := hlen
          have HLEN := Lib.hid hlen
          clear hlen
          have hun : unl cs k = false := by rw [HUN.out]; rfl
          have HUF := Lib.hid (HNX.out hun)
          clear hun HUN HNX
          go_wp2
          refine wp_region_noPanic ?_
          refine wp_region_held_drew (S := fun _ => True) (by kernel_rfl) trivial (fun hHeld => ?_)
          refine wpAnyH_take (i := 0) (oi := ⟨some 21, _, _, _, _, _⟩) (v := ?vta0) rfl (by kernel_rfl) (by kernel_rfl) (by kernel_rfl) (fun _ _ _ h => h) (Or.inl ⟨by kernel_rfl, ?hya0⟩) (by assumption) ?_
          case hya0 => (intro wh hSw; (try dsimp only at hSw); go_simp; try with_reducible rfl)
          simp only [Act.put, List.setIfInBounds_toArray, List.set_cons_zero, List.set_cons_succ]
          refine wpAnyH_take (i := 1) (oi := ⟨some 22, _, _, _, _, _⟩) (v := ?vta1) rfl (by kernel_rfl) (by kernel_rfl) (by kernel_rfl) (fun _ _ _ h => h) (Or.inl ⟨by kernel_rfl, ?hya1⟩) (by assumption) ?_
          case hya1 => (intro wh hSw; (try dsimp only at hSw); go_simp; try with_reducible rfl)
          simp only [Act.put, List.setIfInBounds_toArray, List.set_cons_zero, List.set_cons_succ]
          refine wpAnyH_ready (rs := [2]) (by kernel_rfl) (by simp) ?_
          refine AllReadyH.cons (o := _) rfl (fun K hK => ?_) AllReadyH.nil
          go_simp
          (go_at_call 58; refine (HMV.out).mono ?_; rintro e w4 ⟨⟨v1, rfl, M, AM, cM, rfl, hrM, hsM, hlM, hmM⟩, hbM⟩; have hLM := HLEN.out M hmM; rw [hLM]; clear hLM; have g4 := gtr (gdrew (a := wr)) hbM; clear hrM hsM hlM hmM hbM)
          refine hK.out _ _ trivial (fun _ => ?_)
          clear hK K
          try simp only [Act.put]
          refine wpAnyH_take (i := 3) (oi := ⟨some 24, _, _, _, _, _⟩) (v := ?vtb3) rfl (by kernel_rfl) (by kernel_rfl) (by kernel_rfl) (fun _ _ _ h => h) (Or.inl ⟨by kernel_rfl, ?hyb3⟩) (by assumption) ?_
          case hyb3 => (intro wh hSw; (try dsimp only at hSw); go_simp; try with_reducible rfl)
          simp only [Act.put, List.setIfInBounds_toArray, List.set_cons_zero, List.set_cons_succ]
          refine wpAnyH_take (i := 4) (oi := ⟨some 25, _, _, _, _, _⟩) (v := ?vtb4) rfl (by kernel_rfl) (by kernel_rfl) (by kernel_rfl) (fun _ _ _ h => h) (Or.inl ⟨by kernel_rfl, ?hyb4⟩) (by assumption) ?_
          case hyb4 => (intro wh hSw; (try dsimp only at hSw); go_simp; try with_reducible rfl)
          simp only [Act.put, List.setIfInBounds_toArray, List.set_cons_zero, List.set_cons_succ]
          refine wpAnyH_take (i := 5) (oi := ⟨some 26, _, _, _, _, _⟩) (v := ?vtb5) rfl (by kernel_rfl) (by kernel_rfl) (by kernel_rfl) (fun _ _ _ h => h) (Or.inl ⟨by kernel_rfl, ?hyb5⟩) (by assumption) ?_
          case hyb5 => (intro wh hSw; (try dsimp only at hSw); go_simp; try with_reducible rfl)
          simp only [Act.put, List.setIfInBounds_toArray, List.set_cons_zero, List.set_cons_succ]
          refine wpAnyH_take (i := 6) (oi := ⟨some 27, _, _, _, _, _⟩) (v := undef) rfl (by kernel_rfl) (by kernel_rfl) (by kernel_rfl) (fun _ _ _ h => h) (Or.inr ⟨by kernel_rfl, rfl⟩) (by assumption) ?_
          simp only [Act.put, List.setIfInBounds_toArray, List.set_cons_zero, List.set_cons_succ]
          refine wpAnyH_take (i := 7) (oi := ⟨some 28, _, _, _, _, _⟩) (v := undef) rfl (by kernel_rfl) (by kernel_rfl) (by kernel_rfl) (fun _ _ _ h => h) (Or.inr ⟨by kernel_rfl, rfl⟩) (by assumption) ?_
          simp only [Act.put, List.setIfInBounds_toArray, List.set_cons_zero, List.set_cons_succ]
          refine wpAnyH_take (i := 8) (oi := ⟨some 29, _, _, _, _, _⟩) (v := undef) rfl (by kernel_rfl) (by kernel_rfl) (by kernel_rfl) (fun _ _ _ h => h) (Or.inr ⟨by kernel_rfl, rfl⟩) (by assumption) ?_
          simp only [Act.put, List.setIfInBounds_toArray, List.set_cons_zero, List.set_cons_succ]
          refine wpAnyH_take (i := 9) (oi := ⟨some 30, _, _, _, _, _⟩) (v := undef) rfl (by kernel_rfl) (by kernel_rfl) (by kernel_rfl) (fun _ _ _ h => h) (Or.inr ⟨by kernel_rfl, rfl⟩) (by assumption) ?_
          simp only [Act.put, List.setIfInBounds_toArray, List.set_cons_zero, List.set_cons_succ]
          refine wpAnyH_take (i := 10) (oi := ⟨some 31, _, _, _, _, _⟩) (v := undef) rfl (by kernel_rfl) (by kernel_rfl) (by kernel_rfl) (fun _ _ _ h => h) (Or.inr ⟨by kernel_rfl, rfl⟩) (by assumption) ?_
          simp only [Act.put, List.setIfInBounds_toArray, List.set_cons_zero, List.set_cons_succ]
          refine wpAnyH_take (i := 11) (oi := ⟨some 32, _, _, _, _, _⟩) (v := undef) rfl (by kernel_rfl) (by kernel_rfl) (by kernel_rfl) (fun _ _ _ h => h) (Or.inr ⟨by kernel_rfl, rfl⟩) (by assumption) ?_
          simp only [Act.put, List.setIfInBounds_toArray, List.set_cons_zero, List.set_cons_succ]
          refine wpAnyH_take (i := 12) (oi := ⟨some 33, _, _, _, _, _⟩) (v := undef) rfl (by kernel_rfl) (by kernel_rfl) (by kernel_rfl) (fun _ _ _ h => h) (Or.inr ⟨by kernel_rfl, rfl⟩) (by assumption) ?_
          simp only [Act.put, List.setIfInBounds_toArray, List.set_cons_zero, List.set_cons_succ]
          refine wpAnyH_take (i := 13) (oi := ⟨some 34, _, _, _, _, _⟩) (v := undef) rfl (by kernel_rfl) (by kernel_rfl) (by kernel_rfl) (fun _ _ _ h => h) (Or.inr ⟨by kernel_rfl, rfl⟩) (by assumption) ?_
          simp only [Act.put, List.setIfInBounds_toArray, List.set_cons_zero, List.set_cons_succ]
          refine wpAnyH_take (i := 14) (oi := ⟨some 35, _, _, _, _, _⟩) (v := undef) rfl (by kernel_rfl) (by kernel_rfl) (by kernel_rfl) (fun _ _ _ h => h) (Or.inr ⟨by kernel_rfl, rfl⟩) (by assumption) ?_
          simp only [Act.put, List.setIfInBounds_toArray, List.set_cons_zero, List.set_cons_succ]
          refine wpAnyH_take (i := 15) (oi := ⟨some 36, _, _, _, _, _⟩) (v := undef) rfl (by kernel_rfl) (by kernel_rfl) (by kernel_rfl) (fun _ _ _ h => h) (Or.inr ⟨by kernel_rfl, rfl⟩) (by assumption) ?_
          simp only [Act.put, List.setIfInBounds_toArray, List.set_cons_zero, List.set_cons_succ]
          refine wpAnyH_take (i := 16) (oi := ⟨some 37, _, _, _, _, _⟩) (v := undef) rfl (by kernel_rfl) (by kernel_rfl) (by kernel_rfl) (fun _ _ _ h => h) (Or.inr ⟨by kernel_rfl, rfl⟩) (by assumption) ?_
          simp only [Act.put, List.setIfInBounds_toArray, List.set_cons_zero, List.set_cons_succ]
          refine wpAnyH_take (i := 17) (oi := ⟨some 38, _, _, _, _, _⟩) (v := ?vtb17) rfl (by kernel_rfl) (by kernel_rfl) (by kernel_rfl) (fun _ _ _ h => h) (Or.inl ⟨by kernel_rfl, ?hyb17⟩) (by assumption) ?_
          case hyb17 => (intro wh hSw; (try dsimp only at hSw); go_simp; try with_reducible rfl)
          simp only [Act.put, List.setIfInBounds_toArray, List.set_cons_zero, List.set_cons_succ]
          refine wpAnyH_done (by kernel_rfl) ?_ _
          refine NoPanic.normal ?_
          go_wp2
          go_roundw
          case rel => exact ⟨k + 1, by go_num, by omega, by omega, HB.out.trans (g4.mono hzr), HUF.out⟩
          case measure => simp [intOf]; omega
        · replace hlen : ∀ (M : List (List Int)) (hm : ∀ xs, xs ∈ M ↔ isMv cs k xs), ∃ l, M.length = l + 1 := hlen
          have HLEN := Lib.hid hlen
          clear hlen
          have hun : unl cs k = (a != b) := by rw [HUN.out]; rfl
          rcases a with _ | _ <;> rcases b with _ | _
          all_goals
            go_wp2
            go_region_held3 (fun w' => w'.cell? ⟨b2, o2 + k, none⟩ = some (.int .i64 u) ∧ w'.cell? ⟨b3, o3 + k, none⟩ = some (.int .i64 v)) (go_keep)
              (first | (go_at_call 58; refine (HMV.out).mono ?_; rintro e w4 ⟨⟨v1, rfl, M, AM, cM, rfl, hrM, hsM, hlM, hmM⟩, hbM⟩; obtain ⟨ll, hLM⟩ := HLEN.out M hmM; rw [hLM]; clear hLM; have g4 := gtr (gdrew (a := wr)) hbM; have s4 := HS4.out _ g4; clear hrM hsM hlM hmM hbM))
          all_goals
            have HUN2 := Lib.hid hun
            clear hun
            first
              | (have hu := Lib.hid (show unl cs k = false from HUN2.out)
                 go_wp2
                 go_roundw
                 case rel => exact ⟨k + 1, by go_num, by omega, by omega, HB.out.trans (g4.mono hzr), HNX.out hu.out⟩
                 case measure => simp [intOf]; omega)
              | (have hu := Lib.hid (show unl cs k = true from HUN2.out)
                 go_wp2
                 go_ret
                 exact ⟨k, rfl, HQ.out k (.inl ⟨k, hk1, by omega, hu.out, HN.out, rfl⟩), gtr g3 (HB.out.trans (g4.mono hzr))⟩)
      · obtain rfl : k = 21 := by omega
        have HF := Lib.hid (HQ.out (-1) (.inr ⟨fun j h1 h2 => HN.out j h1 (by omega), rfl⟩))
        have hbw := gtr g3 hb
        clear hb HN
        go_wp2
        go_ret
        exact ⟨-1, rfl, HF.out, hbw⟩
end Go.Proofs.Ytdckgplmkigjcaa
namespace Go.Proofs.Ytdckgplmkigjcaa
open Go.RowKit Go.Maps
set_option linter.unusedVariables false

set_option maxRecDepth 100000 in
set_option maxHeartbeats 1600000 in
theorem fuI_any (A : Option Addr) (c : Nat) (cs : List Int) (w : World) (B : Nat) (hB : B ≤ w.heap.size) (h : RdI w B A c cs) :
    Calls Try.prog 35 #[.slice A cs.length c] w fun e w' => ∃ r : Int, e = .returned (.int .i64 r) ∧ FuQ cs r ∧ Below w.heap.size w w' := by
  have HC := Lib.hid (goodCodeI_any A c cs w B h)
  rcases hg : goodCodeB cs with _ | _
  · have hq : FuQ cs (-1) := by unfold FuQ; rw [hg]; rfl
    have HQ := Lib.hid hq
    rw [hg] at HC
    clear hg hq
    go_enter Try.func35, Try.ntmps35
    go_wp2_with (go_at_call 66; (with_reducible refine (HC.out).mono ?_); rintro e w1 ⟨rfl, rfl⟩)
    go_ret
    exact ⟨-1, rfl, HQ.out, Below.refl _ _⟩
  · have HQ : Hid (∀ r, FuP cs r → FuQ cs r) := Lib.hid fun r hr => by unfold FuQ; rw [hg]; exact hr
    have HG := Lib.hid (goodCodeB_true.1 hg)
    have HH := Lib.hid h
    have hval : Calls Try.prog 74 #[.slice A cs.length c, .int .i64 20] w fun e w' => (∃ A c, e = .returned (.tuple #[.slice A 21 c, .bool true]) ∧ OwnI w' w.heap.size (.slice A 21 c) (nats (V cs 21))) ∧ Below w.heap.size w w' := by
      have h0 := valuesI_any A c cs 20 w B hB h (by omega) HG.out
      rw [show ((20 : Nat) : Int) = 20 from rfl] at h0
      refine h0.mono ?_
      rintro e w' ⟨h1 | h1, h2⟩
      · exact ⟨h1.2, h2⟩
      · exact absurd (small20 cs HG.out) h1.1
    have HVAL := Lib.hid hval
    rw [hg] at HC
    clear hg h hval
    go_enter Try.func35, Try.ntmps35
    go_wp2_with (first
      | (go_at_call 66; (with_reducible refine (HC.out).mono ?_); rintro e w1 ⟨rfl, rfl⟩)
      | (go_at_call 74; (with_reducible refine (HVAL.out).mono ?_); rintro e w1 ⟨⟨A1, c1, rfl, ho1⟩, hb1⟩)
      | (go_at_call 53; (with_reducible refine (newM_any A c cs _).mono ?_); rintro e w2 ⟨b, rfl, hbw, hM2, hb2⟩))
    have hz1 := hb1.size
    have hz2 := hb2.size
    have hr1 : RdI w2 w1.heap.size A1 c1 (nats (V cs 21)) := (ho1.rd (by rw [nats_len, V_len])).below hb2 (Nat.le_refl _)
    obtain ⟨G, hG⟩ : ∃ G, G = w2.heap.size := ⟨_, rfl⟩
    obtain ⟨B1, hB1⟩ : ∃ B1, B1 = w1.heap.size := ⟨_, rfl⟩
    have hbA := bel1 w2 (.cells #[.slice A cs.length c, .map (some b)] 63)
    have hBX : Blk (w2.alloc (.cells #[.slice A cs.length c, .map (some b)] 63)) G 63 #[.slice A cs.length c, .map (some b)] := Blk.new_at w2 _ _ hG
    have hM3 := hM2.kept (belowG hbA none) (by simp)
    have g2 := gtr hb1 hb2
    have hgw := gtr g2 hbA
    have hg1 := gtr hb2 hbA
    rw [← hB1] at hr1 hg1
    have hr3 := hr1.below hbA (by omega)
    have h3 := HH.out.below hgw hB
    have hbG : b < G := by rw [hG]; exact hM2.lt
    have hwG : w.heap.size ≤ G := by omega
    have hB1G : B1 ≤ G := by omega
    have hBB1 : B ≤ B1 := by omega
    have hbB1 : B1 ≤ b := by omega
    have hwB1 : w.heap.size ≤ B1 := by omega
    clear hbA hM2 hr1 g2
    generalize w2.alloc (.cells #[.slice A cs.length c, .map (some b)] 63) = W at *
    rw [← hG]
    have hGW : G < W.heap.size := hBX.lt
    have HR := Lib.hid hr3
    have HG0 := Lib.hid hgw
    clear hG hr3 ho1 hb1 hb2 hgw hg1 hz2 hz1 hbw hB1
    go_loopw [6] (fun s wr => ∃ (k : Nat) (K : List (List Int)), s = .int .i64 k ∧ 1 ≤ k ∧ k ≤ 21 ∧ MapM wr b cs K ∧ Blk wr G 63 #[.slice A cs.length c, .map (some b)] ∧ Below B1 W wr ∧ ∀ j : Nat, 1 ≤ j → j < k → unl cs j = false) (fun s _ => 21 - (intOf s).toNat)
    case atStart => exact ⟨1, [], rfl, by omega, by omega, hM3, hBX, Below.refl _ _, fun j h1 h2 => by omega⟩
    case round =>
      clear hM3 hBX
      obtain ⟨k, K, rfl, hk1, hk, hM, hBX, hb, hn⟩ := hrel
      have HN := Lib.hid hn; clear hn
      have hzr := hb.size
      have hGl := hBX.lt
      by_cases hlt : k < 21
      · have hltI : (k : Int) ≤ 20 := by omega
        obtain ⟨b3, o3, hA3, hB3, hc3⟩ := (HR.out.below hb (Nat.le_refl _)).at (j := k) (by rw [nats_len, V_len]; omega)
        have q3 := hc3 k (by rw [nats_len, V_len]; omega)
        subst hA3
        rw [gi_nats] at q3
        have HMV := Lib.hid (heapMoves_any A c cs k wr.drew B (by have : wr.drew.heap.size = wr.heap.size := rfl; omega) ((h3.below hb (by omega)).below (gdrew (a := wr)) (by omega)) (by omega) HG.out)
        clear hc3
        have hnzM : (((mz cs (nz [(k : Int)]) : Nat) : Int) != 0) = nzM cs k := rfl
        have hnzV : (((gn (V cs 21) k : Nat) : Int) != 0) = nzV cs k := rfl
        have HUN : Hid (unl cs k = (hasMv cs k && (nzV cs k != nzM cs k))) := Lib.hid rfl
        have HNX : Hid (unl cs k = false → ∀ j : Nat, 1 ≤ j → j < k + 1 → unl cs j = false) := Lib.hid fun h j h1 h2 => if e : j = k then e ▸ h else HN.out j h1 (by omega)
        have hP := hp_one k (by omega)
        have hq1 : nz [(k : Int)] = [(k : Int)] := by
          simp [nz]
          omega
        rw [hq1] at hP hnzM
        have HV : Hid (∀ W' A3 c3, Below wr.heap.size wr W' → RdI W' W'.heap.size A3 c3 [(k : Int)] → (∀ a, A3 = some a → wr.heap.size ≤ a.block) → Calls Try.prog 71 #[.agg #[.slice A cs.length c, .map (some b)], .slice A3 1 c3, .int .i64 0, .int .i64 0] W' fun e w' =>
            e = .returned (.int .i64 (mz cs [(k : Int)] : Nat)) ∧ (∃ K', MapM w' b cs K') ∧ W'.grownBy w' (some b)) := Lib.hid fun W' A3 c3 hW hr3 ha =>
          valI cs HG.out A c B b (by omega) [(k : Int)] W' A3 c3 K hP (hM.kept (belowG hW none) (by simp)) (h3.below (hb.trans (hW.mono (by omega))) (by omega)) hr3 (fun a e => by have := ha a e; omega)
        obtain ⟨u, hu⟩ : ∃ u, u = mz cs [(k : Int)] := ⟨_, rfl⟩
        obtain ⟨v, hv⟩ : ∃ v, v = gn (V cs 21) k := ⟨_, rfl⟩
        rw [← hu] at HV hnzM
        rw [← hv] at q3 hnzV
        obtain ⟨a, ha⟩ : ∃ a, a = nzV cs k := ⟨_, rfl⟩
        obtain ⟨d, hb1⟩ : ∃ d, d = nzM cs k := ⟨_, rfl⟩
        obtain ⟨m, hm⟩ : ∃ m, m = hasMv cs k := ⟨_, rfl⟩
        rw [← ha] at hnzV HUN
        rw [← hb1] at hnzM HUN
        have hlen := hasMv_lenF m hm
        rw [← hm] at HUN
        have q0 : wr.cell? ⟨G, 0, none⟩ = some (.slice A cs.length c) := hBX.cell 0
        have q1 : wr.cell? ⟨G, 1, none⟩ = some (.map (some b)) := hBX.cell 1
        have HS4 : Hid (∀ W', Below wr.heap.size wr W' → W'.cell? ⟨b3, o3 + k, none⟩ = some (.int .i64 v) ∧ W'.cell? ⟨G, 0, none⟩ = some (.slice A cs.length c) ∧ W'.cell? ⟨G, 1, none⟩ = some (.map (some b))) := Lib.hid fun W' hW => ⟨(hW.cell (p := ⟨b3, o3 + k, none⟩) (by show b3 < _; omega)).trans q3, (hBX.below hW hGl).cell 0, (hBX.below hW hGl).cell 1⟩
        have HQ3 : Hid (∀ W', Below B1 wr W' → W'.cell? ⟨b3, o3 + k, none⟩ = some (.int .i64 v)) := Lib.hid fun W' hW => (hW.cell (p := ⟨b3, o3 + k, none⟩) (by show b3 < _; omega)).trans q3
        have HB := Lib.hid hb; have HBX := Lib.hid hBX; have HM := Lib.hid hM
        clear hu hv ha hb1 hm hb hBX hM h3
        have hkb : (0 : Int) ≤ k := by omega
        have hkl : (k : Int) < 21 := by omega
        have hMl : b < wr.heap.size := by omega
        rcases m with _ | _
        · replace hlen : ∀ (M : List (List Int)) (hm : ∀ xs, xs ∈ M ↔ isMv cs k xs), M.length = 0 := hlen
          have HLEN := Lib.hid hlen
          clear hlen
          have hun : unl cs k = false := by rw [HUN.out]; rfl
          have HUF := Lib.hid (HNX.out hun)
          clear hun HUN HNX
          go_wp2
          refine wp_region_noPanic ?_
          refine wp_region_held_drew (S := fun _ => True) (by kernel_rfl) trivial (fun hHeld => ?_)
          refine wpAnyH_take (i := 0) (oi := ⟨some 23, _, _, _, _, _⟩) (v := ?vta0) rfl (by kernel_rfl) (by kernel_rfl) (by kernel_rfl) (fun _ _ _ h => h) (Or.inl ⟨by kernel_rfl, ?hya0⟩) (by assumption) ?_
          case hya0 => (intro wh hSw; (try dsimp only at hSw); go_simp; try with_reducible rfl)
          simp only [Act.put, List.setIfInBounds_toArray, List.set_cons_zero, List.set_cons_succ]
          refine wpAnyH_take (i := 1) (oi := ⟨some 24, _, _, _, _, _⟩) (v := ?vta1) rfl (by kernel_rfl) (by kernel_rfl) (by kernel_rfl) (fun _ _ _ h => h) (Or.inl ⟨by kernel_rfl, ?hya1⟩) (by assumption) ?_
          case hya1 => (intro wh hSw; (try dsimp only at hSw); go_simp; try with_reducible rfl)
          simp only [Act.put, List.setIfInBounds_toArray, List.set_cons_zero, List.set_cons_succ]
          refine wpAnyH_ready (rs := [2]) (by kernel_rfl) (by simp) ?_
          refine AllReadyH.cons (o := _) rfl (fun K hK => ?_) AllReadyH.nil
          go_simp
          (go_at_call 75; refine (HMV.out).mono ?_; rintro e w4 ⟨⟨v1, rfl, L, g1, cM, rfl, hL1, hL2, hL3, hL4, hL5, hL6⟩, hbM⟩; have hLM := HLEN.out _ hL6; rw [List.length_map] at hLM; rw [hLM]; clear hLM; have g4 := gtr (gdrew (a := wr)) hbM; clear hL1 hL2 hL3 hL4 hL5 hL6 hbM)
          refine hK.out _ _ trivial (fun _ => ?_)
          clear hK K
          try simp only [Act.put]
          refine wpAnyH_take (i := 3) (oi := ⟨some 26, _, _, _, _, _⟩) (v := ?vtb3) rfl (by kernel_rfl) (by kernel_rfl) (by kernel_rfl) (fun _ _ _ h => h) (Or.inl ⟨by kernel_rfl, ?hyb3⟩) (by assumption) ?_
          case hyb3 => (intro wh hSw; (try dsimp only at hSw); go_simp; try with_reducible rfl)
          simp only [Act.put, List.setIfInBounds_toArray, List.set_cons_zero, List.set_cons_succ]
          refine wpAnyH_take (i := 4) (oi := ⟨some 27, _, _, _, _, _⟩) (v := ?vtb4) rfl (by kernel_rfl) (by kernel_rfl) (by kernel_rfl) (fun _ _ _ h => h) (Or.inl ⟨by kernel_rfl, ?hyb4⟩) (by assumption) ?_
          case hyb4 => (intro wh hSw; (try dsimp only at hSw); go_simp; try with_reducible rfl)
          simp only [Act.put, List.setIfInBounds_toArray, List.set_cons_zero, List.set_cons_succ]
          refine wpAnyH_take (i := 5) (oi := ⟨some 28, _, _, _, _, _⟩) (v := ?vtb5) rfl (by kernel_rfl) (by kernel_rfl) (by kernel_rfl) (fun _ _ _ h => h) (Or.inl ⟨by kernel_rfl, ?hyb5⟩) (by assumption) ?_
          case hyb5 => (intro wh hSw; (try dsimp only at hSw); go_simp; try with_reducible rfl)
          simp only [Act.put, List.setIfInBounds_toArray, List.set_cons_zero, List.set_cons_succ]
          refine wpAnyH_take (i := 6) (oi := ⟨some 29, _, _, _, _, _⟩) (v := undef) rfl (by kernel_rfl) (by kernel_rfl) (by kernel_rfl) (fun _ _ _ h => h) (Or.inr ⟨by kernel_rfl, rfl⟩) (by assumption) ?_
          simp only [Act.put, List.setIfInBounds_toArray, List.set_cons_zero, List.set_cons_succ]
          refine wpAnyH_take (i := 7) (oi := ⟨some 30, _, _, _, _, _⟩) (v := undef) rfl (by kernel_rfl) (by kernel_rfl) (by kernel_rfl) (fun _ _ _ h => h) (Or.inr ⟨by kernel_rfl, rfl⟩) (by assumption) ?_
          simp only [Act.put, List.setIfInBounds_toArray, List.set_cons_zero, List.set_cons_succ]
          refine wpAnyH_take (i := 8) (oi := ⟨some 31, _, _, _, _, _⟩) (v := undef) rfl (by kernel_rfl) (by kernel_rfl) (by kernel_rfl) (fun _ _ _ h => h) (Or.inr ⟨by kernel_rfl, rfl⟩) (by assumption) ?_
          simp only [Act.put, List.setIfInBounds_toArray, List.set_cons_zero, List.set_cons_succ]
          refine wpAnyH_take (i := 9) (oi := ⟨some 32, _, _, _, _, _⟩) (v := undef) rfl (by kernel_rfl) (by kernel_rfl) (by kernel_rfl) (fun _ _ _ h => h) (Or.inr ⟨by kernel_rfl, rfl⟩) (by assumption) ?_
          simp only [Act.put, List.setIfInBounds_toArray, List.set_cons_zero, List.set_cons_succ]
          refine wpAnyH_take (i := 10) (oi := ⟨some 33, _, _, _, _, _⟩) (v := undef) rfl (by kernel_rfl) (by kernel_rfl) (by kernel_rfl) (fun _ _ _ h => h) (Or.inr ⟨by kernel_rfl, rfl⟩) (by assumption) ?_
          simp only [Act.put, List.setIfInBounds_toArray, List.set_cons_zero, List.set_cons_succ]
          refine wpAnyH_take (i := 11) (oi := ⟨some 34, _, _, _, _, _⟩) (v := undef) rfl (by kernel_rfl) (by kernel_rfl) (by kernel_rfl) (fun _ _ _ h => h) (Or.inr ⟨by kernel_rfl, rfl⟩) (by assumption) ?_
          simp only [Act.put, List.setIfInBounds_toArray, List.set_cons_zero, List.set_cons_succ]
          refine wpAnyH_take (i := 12) (oi := ⟨some 35, _, _, _, _, _⟩) (v := undef) rfl (by kernel_rfl) (by kernel_rfl) (by kernel_rfl) (fun _ _ _ h => h) (Or.inr ⟨by kernel_rfl, rfl⟩) (by assumption) ?_
          simp only [Act.put, List.setIfInBounds_toArray, List.set_cons_zero, List.set_cons_succ]
          refine wpAnyH_take (i := 13) (oi := ⟨some 36, _, _, _, _, _⟩) (v := undef) rfl (by kernel_rfl) (by kernel_rfl) (by kernel_rfl) (fun _ _ _ h => h) (Or.inr ⟨by kernel_rfl, rfl⟩) (by assumption) ?_
          simp only [Act.put, List.setIfInBounds_toArray, List.set_cons_zero, List.set_cons_succ]
          refine wpAnyH_take (i := 14) (oi := ⟨some 37, _, _, _, _, _⟩) (v := undef) rfl (by kernel_rfl) (by kernel_rfl) (by kernel_rfl) (fun _ _ _ h => h) (Or.inr ⟨by kernel_rfl, rfl⟩) (by assumption) ?_
          simp only [Act.put, List.setIfInBounds_toArray, List.set_cons_zero, List.set_cons_succ]
          refine wpAnyH_take (i := 15) (oi := ⟨some 38, _, _, _, _, _⟩) (v := undef) rfl (by kernel_rfl) (by kernel_rfl) (by kernel_rfl) (fun _ _ _ h => h) (Or.inr ⟨by kernel_rfl, rfl⟩) (by assumption) ?_
          simp only [Act.put, List.setIfInBounds_toArray, List.set_cons_zero, List.set_cons_succ]
          refine wpAnyH_take (i := 16) (oi := ⟨some 39, _, _, _, _, _⟩) (v := undef) rfl (by kernel_rfl) (by kernel_rfl) (by kernel_rfl) (fun _ _ _ h => h) (Or.inr ⟨by kernel_rfl, rfl⟩) (by assumption) ?_
          simp only [Act.put, List.setIfInBounds_toArray, List.set_cons_zero, List.set_cons_succ]
          refine wpAnyH_take (i := 17) (oi := ⟨some 40, _, _, _, _, _⟩) (v := ?vtb17) rfl (by kernel_rfl) (by kernel_rfl) (by kernel_rfl) (fun _ _ _ h => h) (Or.inl ⟨by kernel_rfl, ?hyb17⟩) (by assumption) ?_
          case hyb17 => (intro wh hSw; (try dsimp only at hSw); go_simp; try with_reducible rfl)
          simp only [Act.put, List.setIfInBounds_toArray, List.set_cons_zero, List.set_cons_succ]
          refine wpAnyH_done (by kernel_rfl) ?_ _
          refine NoPanic.normal ?_
          go_wp2
          go_roundw
          case rel => exact ⟨k + 1, K, by go_num, by omega, by omega, HM.out.kept (belowG g4 none) (by simp), HBX.out.below g4 hGl, HB.out.trans (g4.mono (by omega)), HUF.out⟩
          case measure => simp [intOf]; omega
        · replace hlen : ∀ (M : List (List Int)) (hm : ∀ xs, xs ∈ M ↔ isMv cs k xs), ∃ l, M.length = l + 1 := hlen
          have HLEN := Lib.hid hlen
          clear hlen
          have hun : unl cs k = (a != d) := by rw [HUN.out]; rfl
          go_wp2
          go_region_held3 (fun w' => w'.cell? ⟨b3, o3 + k, none⟩ = some (.int .i64 v) ∧ w'.cell? ⟨G, 0, none⟩ = some (.slice A cs.length c) ∧ w'.cell? ⟨G, 1, none⟩ = some (.map (some b))) (go_keep)
              (first
                | (go_at_call 75; refine (HMV.out).mono ?_; rintro e w4 ⟨⟨v1, rfl, L, g1, cM, rfl, hL1, hL2, hL3, hL4, hL5, hL6⟩, hbM⟩; obtain ⟨ll, hLM⟩ := HLEN.out _ hL6; rw [List.length_map] at hLM; rw [hLM]; clear hLM; have g4 := gtr (gdrew (a := wr)) hbM; have s4 := (HS4.out _ g4).1; have s4' := (HS4.out _ g4).2.1; have s4'' := (HS4.out _ g4).2.2; clear hL1 hL2 hL3 hL4 hL5 hL6 hbM)
                | (go_at_call 71; have g5 := gtr g4 (bel1 w4 (.cells #[.int .i64 (k : Int)] 3)); have h7 : RdI (w4.alloc (.cells #[.int .i64 (k : Int)] 3)) (w4.heap.size + 1) (some ⟨w4.heap.size, 0, none⟩) 1 [(k : Int)] := Rd.of_lit (cs := [.int .i64 (k : Int)]) (Blk.new w4 3 _) (by omega) (by simp); refine (HV.out _ _ _ g5 (h7.more (by simp)) (fun a e => by injection e with e; subst e; have := g4.size; show _ ≤ w4.heap.size; omega)).mono ?_; rintro e w5 ⟨rfl, ⟨K5, hM5⟩, hg5⟩; have hB5 := (HBX.out.below g5 hGl).grown hg5 (by simp; omega); have hW5 : Below B1 wr w5 := (g5.mono (by omega)).grown hg5 (by have := g5.size; omega) (fun j hj => by injection hj with hj; omega); have s5 := HQ3.out _ hW5; have s5' := hB5.cell 0; have s5'' := hB5.cell 1))
          all_goals
            have HUN2 := Lib.hid hun
            have HB5 := Lib.hid hB5; have HW5 := Lib.hid hW5
            have HM5 := Lib.hid hM5
            clear hun hB5 hW5 hM5 hg5 s5 s5' s5'' s4 s4' s4'' g4 g5 h7
            rcases a with _ | _ <;> rcases d with _ | _
          all_goals
            first
              | (have hu := Lib.hid (show unl cs k = false from HUN2.out)
                 go_wp2
                 go_roundw
                 case rel => exact ⟨k + 1, K5, by go_num, by omega, by omega, HM5.out, HB5.out, HB.out.trans (HW5.out), HNX.out hu.out⟩
                 case measure => simp [intOf]; omega)
              | (have hu := Lib.hid (show unl cs k = true from HUN2.out)
                 go_wp2
                 go_ret
                 exact ⟨k, rfl, HQ.out k (.inl ⟨k, hk1, by omega, hu.out, HN.out, rfl⟩), HG0.out.trans ((HB.out.trans HW5.out).mono hwB1)⟩)
      · obtain rfl : k = 21 := by omega
        have HF := Lib.hid (HQ.out (-1) (.inr ⟨fun j h1 h2 => HN.out j h1 (by omega), rfl⟩))
        have hbw := HG0.out.trans (hb.mono (by omega))
        clear hb HN hM hBX
        go_wp2
        go_ret
        exact ⟨-1, rfl, HF.out, hbw⟩

set_option maxHeartbeats 800000 in
theorem lawUnlike (a : Option Addr) (len cap : Nat) (zs : List Int) (w : World) (h : IsRow .i64 w a len cap zs) :
    Calls Try.prog 9 #[.slice a len cap] w fun e w' => e = .returned (.bool true) ∧ Below w.heap.size w w' := by
  obtain ⟨hr, hl⟩ := h.rd
  clear h
  generalize zs.take len = xs at hr hl
  subst hl
  have h1 := hr.len
  have h2 := hr.max
  by_cases hbig : 1048576 < xs.length
  · go_enter Try.func9, Try.ntmps9
    go_wp2
    go_ret
    exact ⟨rfl, Below.refl _ _⟩
  have hsm : xs.length ≤ 1048576 := by omega
  have g0 := Below.refl w.heap.size w
  have HS := Lib.hid fun A c W => fuS_any A c xs W W.heap.size (Nat.le_refl _)
  have HI := Lib.hid fun A c W => fuI_any A c xs W W.heap.size (Nat.le_refl _)
  go_enter Try.func9, Try.ntmps9
  go_wp2_with fail
  ((with_reducible refine (toIntS_any _ _ xs _ _ g0.size (hr.below g0 (Nat.le_refl _)) hsm).mono ?_); rintro e w1 ⟨A1, c1, rfl, ho1, hb1⟩)
  have g1 := gtr g0 hb1
  go_wp2_with fail
  ((with_reducible refine (HS.out A1 c1 _ (ho1.rd rfl)).mono ?_); rintro e w3 ⟨r, rfl, hq, hb3⟩)
  have g3 := gtr g1 hb3
  clear ho1 hb1
  go_wp2_with fail
  ((with_reducible refine (toIntS_any _ _ xs _ _ g3.size (hr.below g3 (Nat.le_refl _)) hsm).mono ?_); rintro e w4 ⟨A4, c4, rfl, ho4, hb4⟩)
  have g4 := gtr g3 hb4
  go_wp2_with fail
  ((with_reducible refine (HI.out A4 c4 _ (ho4.rd rfl)).mono ?_); rintro e w6 ⟨r2, rfl, hq2, hb6⟩)
  obtain rfl := hq.unique hq2
  have hne : (r != r) = false := by simp
  have g6 := gtr g4 hb6
  have hx6 := ho4.below hb6
  clear hq hq2 ho4 hb4 hb3 hb6
  go_wp2_with fail
  ((with_reducible refine (toIntS_any _ _ xs _ _ g6.size (hr.below g6 (Nat.le_refl _)) hsm).mono ?_); rintro e w7 ⟨A7, c7, rfl, ho7, hb7⟩)
  have g7 := gtr g6 hb7
  have hx7 := hx6.below hb7
  go_wp2_with fail
  ((with_reducible refine (eqIntS_any _ _ _ _ xs xs _ _ (Nat.le_refl _) (hx7.rd rfl) (ho7.rd rfl)).mono ?_); rintro e w8 ⟨rfl, hb8⟩)
  go_wp2
  go_ret
  exact ⟨rfl, gtr g7 hb8⟩
end Go.Proofs.Ytdckgplmkigjcaa
