/- MisereRow: the program's and the reference's, by contracts. Conditions: none. -/
import Derived.Test.YtdckgplmkigjcaaMisW
namespace Go.Proofs.Ytdckgplmkigjcaa
open Go.RowKit Go.Maps
set_option linter.unusedVariables false

theorem Own.grownLow {w w' : World} {base b : Nat} {E : TypeId} {v : Value} {cs : List Value} (h : Own w base E v cs) (hg : w.grownBy w' (some b)) (hb : b < base) : Own w' base E v cs := by
  refine h.grown hg ?_
  rcases hob : v.ownBlock with _ | k
  · exact .inl rfl
  · refine .inr fun e => ?_
    injection e with e
    have := (h.lt k hob).1
    omega
/-- The values of the heaps of 0 to n - 1. -/
noncomputable def rowM (cs : List Int) (n : Nat) : List Int := (List.range n).map fun (h : Nat) => ((mz cs (nz [(h : Int)]) : Nat) : Int)
theorem rowM_len (cs : List Int) (n : Nat) : (rowM cs n).length = n := by simp [rowM]
theorem rowM_succ (cs : List Int) (n : Nat) : rowM cs (n + 1) = rowM cs n ++ [((mz cs (nz [(n : Int)]) : Nat) : Int)] := by simp [rowM, List.range_succ]
theorem hp_one (h : Nat) (hh : h ≤ 20) : Hp 20 (nz [(h : Int)]) := by
  refine ⟨fun x hx => ?_, ?_, by rw [sm_nz]; simp [sm]; omega⟩
  · have h1 := List.mem_filter.1 hx
    have h2 : x = h := by simpa using h1.1
    have h3 : x ≠ 0 := by simpa using h1.2
    omega
  · exact (List.pairwise_singleton _ _).sublist List.filter_sublist
theorem srt_one (h : Nat) : srt (nz [(h : Int)]) = nz [(h : Int)] := srt_self ((List.pairwise_singleton _ _).sublist List.filter_sublist)

set_option maxRecDepth 100000 in
set_option maxHeartbeats 1600000 in
theorem rowI_loop (A : Option Addr) (c : Nat) (cs : List Int) (n : Nat) (w : World) (B : Nat) (hB : B ≤ w.heap.size) (h : RdI w B A c cs) (hg : goodCodeB cs = true) (hn : n ≤ 20) :
    Calls Try.prog 29 #[.slice A cs.length c, .int .i64 n] w fun e w' => ∃ A' c', e = .returned (.tuple #[.slice A' (n + 1) c', .bool true]) ∧ OwnI w' w.heap.size (.slice A' (n + 1) c') (rowM cs (n + 1)) ∧ Below w.heap.size w w' := by
  have HC := Lib.hid (goodCodeI_any A c cs w B h)
  rw [hg] at HC
  have HG := Lib.hid (goodCodeB_true.1 hg)
  have HH := Lib.hid h
  have hn0 : (0 : Int) ≤ (n : Int) := by omega
  clear hg h
  go_enter Try.func29, Try.ntmps29
  go_wp2_with (first
    | (go_at_call 66; (with_reducible refine (HC.out).mono ?_); rintro e w1 ⟨rfl, rfl⟩)
    | (go_at_call 53; (with_reducible refine (newM_any A c cs _).mono ?_); rintro e w2 ⟨b, rfl, hbw, hM2, hb2⟩))
  have hz2 := hb2.size
  have hzB : (w2.alloc (.cells #[.slice A cs.length c, .map (some b)] 63)).heap.size = w2.heap.size + 1 := by simp
  obtain ⟨G, hG⟩ : ∃ G, G = w2.heap.size := ⟨_, rfl⟩
  have hbA := bel2 w2 (.cells #[.slice A cs.length c, .map (some b)] 63) (.cells #[] 3)
  have hBX : Blk ((w2.alloc (.cells #[.slice A cs.length c, .map (some b)] 63)).alloc (.cells #[] 3)) G 63 #[.slice A cs.length c, .map (some b)] := (Blk.new_at w2 _ _ hG).alloc _
  have hO : Own ((w2.alloc (.cells #[.slice A cs.length c, .map (some b)] 63)).alloc (.cells #[] 3)) (G + 1) 3 (.slice (some ⟨w2.heap.size + 1, 0, none⟩) 0 0) (ints (rowM cs 0)) := by
    have := Own.empty (w2.alloc (.cells #[.slice A cs.length c, .map (some b)] 63)) 3 3 (G + 1) (by omega)
    rw [hzB] at this
    exact this
  have hM3 := hM2.kept (belowG hbA none) (by simp)
  have hgw := gtr hb2 hbA
  have hbG : b < G := by rw [hG]; exact hM2.lt
  have hwG : w.heap.size ≤ G := by omega
  have hn1 : (n : Int) + 1 = ((n + 1 : Nat) : Int) := by omega
  have HGW := Lib.hid hgw
  clear hbA hM2 hzB
  generalize (w2.alloc (.cells #[.slice A cs.length c, .map (some b)] 63)).alloc (.cells #[] 3) = W at *
  rw [← hG] at hO ⊢
  have hGW : G < W.heap.size := hBX.lt
  clear hG hn1
  go_loopw [7, 25] (fun v s wr => ∃ (k : Nat) (A1 : Option Addr) (c1 : Nat) (K : List (List Int)), s = .int .i64 k ∧ k ≤ n + 1 ∧ v = .slice A1 k c1 ∧ Own wr (G + 1) 3 (.slice A1 k c1) (ints (rowM cs k)) ∧ MapM wr b cs K ∧ Blk wr G 63 #[.slice A cs.length c, .map (some b)] ∧ Below w.heap.size w wr) (fun _ s _ => n + 1 - (intOf s).toNat)
  case atStart => exact ⟨0, _, _, [], rfl, by omega, rfl, hO, hM3, hBX, hgw⟩
  case round =>
    clear hO hM3 hBX hgw HGW hGW hb2
    obtain ⟨k, A1, c1, K, rfl, hk, rfl, ho, hM, hBX, hb⟩ := hrel
    by_cases hlt : k < n + 1
    · have hltI : (k : Int) < (n : Int) + 1 := by omega
      have hk20 : k ≤ 20 := by omega
      have HSN := Lib.hid (rowM_succ cs k)
      have hP := hp_one k hk20
      have hzw := hb.size
      have hGl := hBX.lt
      have hCA : RdI ((wr.alloc (.cells #[.int .i64 k] 3)).drew) (wr.heap.size + 1) (some ⟨wr.heap.size, 0, none⟩) 1 [(k : Int)] := Rd.of_lit (cs := [.int .i64 (k : Int)]) (Blk.drew' (Blk.new wr 3 _)) (by omega) (by simp)
      have hbA1 : Below wr.heap.size wr ((wr.alloc (.cells #[.int .i64 k] 3)).drew) := (bel1 wr _).drew
      have hzA : (wr.alloc (.cells #[.int .i64 k] 3)).drew.heap.size = wr.heap.size + 1 := by
        show (wr.heap.push _).size = _
        simp
      have hF := filled_any (some ⟨wr.heap.size, 0, none⟩) 1 [(k : Int)] _ (wr.heap.size + 1) (by rw [hzA]; exact Nat.le_refl _) hCA (fun x hx => by simp at hx; omega) (by simp)
      rw [show [(k : Int)].length = 1 from rfl] at hF
      have HS4 : Hid (∀ W', Below wr.heap.size wr W' → W'.cell? ⟨G, 0, none⟩ = some (.slice A cs.length c) ∧ W'.cell? ⟨G, 1, none⟩ = some (.map (some b))) := fun W' hW => ⟨(hBX.below hW hGl).cell 0, (hBX.below hW hGl).cell 1⟩
      have HV : Hid (∀ W' A3 c3, Below wr.heap.size wr W' → OwnI W' (wr.heap.size + 1) (.slice A3 (nz [(k : Int)]).length c3) (nz [(k : Int)]) → Calls Try.prog 71 #[.agg #[.slice A cs.length c, .map (some b)], .slice A3 (nz [(k : Int)]).length c3, .int .i64 0, .int .i64 0] W' fun e w' =>
          e = .returned (.int .i64 (mz cs (nz [(k : Int)]) : Nat)) ∧ (∃ K', MapM w' b cs K') ∧ W'.grownBy w' (some b)) := fun W' A3 c3 hW ho3 =>
        valI cs HG.out A c B b (by omega) (nz [(k : Int)]) W' A3 c3 K hP (hM.kept (belowG hW none) (by simp)) (HH.out.below (hb.trans (hW.mono hzw)) hB) (ho3.rd rfl) (fun a ha => by subst ha; have := (ho3.lt a.block rfl).1; have := hM.lt; omega)
      obtain ⟨q, hq⟩ : ∃ q, q = nz [(k : Int)] := ⟨_, rfl⟩
      obtain ⟨u, hu⟩ : ∃ u, u = mz cs q := ⟨_, rfl⟩
      rw [← hq] at hF HV HSN
      rw [← hu] at HV HSN
      have HF := Lib.hid hF
      have q0 : wr.cell? ⟨G, 0, none⟩ = some (.slice A cs.length c) := hBX.cell 0
      have q1 : wr.cell? ⟨G, 1, none⟩ = some (.map (some b)) := hBX.cell 1
      have HO := Lib.hid ho; have HBX := Lib.hid hBX; have HB := Lib.hid hb; have HBA := Lib.hid hbA1; have HZA := Lib.hid hzA
      have E8 : Hid ((ints (rowM cs k)).length = k) := Lib.hid (by rw [ints_len, rowM_len])
      have hMl := hM.lt
      clear hF hu hq hP hCA hbA1 hzA ho hM hBX hb
      go_wp2
      go_region_held3 (fun w' => w'.cell? ⟨G, 0, none⟩ = some (.slice A cs.length c) ∧ w'.cell? ⟨G, 1, none⟩ = some (.map (some b))) (go_keep)
        (first
          | (go_at_call 72; refine (HF.out).mono ?_; rintro e w3 ⟨A3, c3, rfl, ho3, hb3⟩; have g3 := HBA.out.trans (hb3.mono (by rw [HZA.out]; omega)); rw [HZA.out] at ho3; have s3 := (HS4.out _ g3).1; have s3' := (HS4.out _ g3).2)
          | (go_at_call 71; refine (HV.out w3 A3 c3 g3 ho3).mono ?_; rintro e w4 ⟨rfl, ⟨K4, hM4⟩, hg4⟩; have hB4 := (HBX.out.below g3 hGl).grown hg4 (by simp; omega); have s4 := hB4.cell 0; have s4' := hB4.cell 1)
          | (have hO4 := ((HO.out.below g3).grownLow hg4 (by omega)).below (bel1 w4 (.cells #[.int .i64 u] 3)); refine step_append_rd (by rfl) (.tmp 28) (.tmp 34) 22 3 (.int .i64 0) 8 (by rfl) Try.underlying22 infoInt rfl (by omega) (G + 1) (.slice A1 k c1) (ints (rowM cs k)) (by rfl) (by exact hO4) _ _ _ _ [.int .i64 u] (by rfl) rfl (Rd.of_blk (Blk.new_at _ _ _ (by simp)) (Nat.lt_succ_self _)) (fun u hu => by simp at hu; subst hu; rfl) (by rw [E8.out]; simp; omega) (by have := g3.size; have := hg4.size; simp; omega) ?_; intro A5 c5 w5 ho5 hb5 hg5; rw [E8.out] at ho5 ⊢; have hB5 := (hB4.alloc (.cells #[.int .i64 u] 3)).grown hg5 (fun e => by have := (hO4.lt G e.symm).1; omega); have s5 : w5.cell? ⟨G, 0, none⟩ = some (.slice A cs.length c) := hB5.cell 0; have s5' : w5.cell? ⟨G, 1, none⟩ = some (.map (some b)) := hB5.cell 1; have hM5 := (hM4.kept (belowG (bel1 w4 (.cells #[.int .i64 u] 3)) none) (by simp)).kept hg5 (fun e => by have := (hO4.lt b e.symm).1; omega)))
      all_goals
        rw [List.length_singleton] at ho5 ⊢
        have e9 : ints (rowM cs k) ++ [.int .i64 u] = ints (rowM cs (k + 1)) := by rw [HSN.out, ints_snoc]
        rw [e9] at ho5
        have HO5 := Lib.hid ho5; have HM5 := Lib.hid hM5; have HB5 := Lib.hid hB5
        have HBB : Hid (Below w.heap.size w w5) := Lib.hid (((((HB.out.trans (g3.mono hzw)).grown hg4 (by have := g3.size; omega) (fun j hj => by injection hj with hj; omega)).trans ((bel1 w4 _).mono (by have := g3.size; have := hg4.size; omega)))).grown hg5 (by have := g3.size; have := hg4.size; simp; omega) fun j hj => by have := (hO4.lt j hj).1; omega)
        clear ho5 hM5 hB5 hb5 hg5 hO4 hB4 hM4 hg4 s4 s4' s3 s3' g3 hb3 ho3 e9 s5 s5'
        go_wp2
        go_roundw
        case rel => exact ⟨k + 1, A5, c5, K4, by go_num, by omega, rfl, HO5.out, HM5.out, HB5.out, HBB.out⟩
        case measure => simp [intOf]; omega
    · obtain rfl : k = n + 1 := by omega
      have HO := Lib.hid ho
      clear ho hM hBX
      go_wp2
      go_ret2
      exact ⟨A1, c1, rfl, own_ints.2 (HO.out.le (by omega)), hb⟩
end Go.Proofs.Ytdckgplmkigjcaa
