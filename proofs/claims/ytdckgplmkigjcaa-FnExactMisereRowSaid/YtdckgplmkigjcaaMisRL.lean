/- FnExactMisereRow returns true: the walk. Conditions: none. -/
import Derived.Test.YtdckgplmkigjcaaMisRS
namespace Go.Proofs.Ytdckgplmkigjcaa
open Go.RowKit
set_option linter.unusedVariables false

def rowB (cs : List Int) (n : Int) : Bool := goodCodeB cs && inB n 0 20
noncomputable def rowV (cs : List Int) (n : Int) : List Int := if rowB cs n = true then rowM cs (n.toNat + 1) else []
theorem rowB_of {cs : List Int} {n : Int} (h : rowB cs n = true) : goodCodeB cs = true ∧ ∃ k : Nat, n = k ∧ k ≤ 20 := by
  unfold rowB inB at h
  simp only [Bool.and_eq_true, decide_eq_true_eq] at h
  exact ⟨h.1, n.toNat, by omega, by omega⟩
theorem rowB_no {cs : List Int} {n : Int} (h : rowB cs n = false) (hg : goodCodeB cs = true) : n < 0 ∨ 20 < n := by
  unfold rowB inB at h
  rw [hg, Bool.true_and] at h
  apply Classical.byContradiction
  intro hh
  have : (decide (0 ≤ n) && decide (n ≤ 20)) = true := by simp; omega
  rw [this] at h; cases h
theorem rowV_len (cs : List Int) (n : Int) : (rowV cs n).length ≤ 21 := by
  unfold rowV
  split
  · rename_i h
    obtain ⟨_, k, rfl, hk⟩ := rowB_of h
    rw [rowM_len]; omega
  · simp

set_option maxHeartbeats 800000 in
theorem rowI_any (A : Option Addr) (c : Nat) (cs : List Int) (n : Int) (w : World) (B : Nat) (hB : B ≤ w.heap.size) (h : RdI w B A c cs) :
    Calls Try.prog 29 #[.slice A cs.length c, .int .i64 n] w fun e w' => ∃ A' c', e = .returned (.tuple #[.slice A' (rowV cs n).length c', .bool (rowB cs n)]) ∧ OwnI w' w.heap.size (.slice A' (rowV cs n).length c') (rowV cs n) ∧ Below w.heap.size w w' := by
  rcases hb : rowB cs n with _ | _
  · have e1 : rowV cs n = [] := by rw [rowV, hb]; rfl
    rw [e1]
    have HC := Lib.hid (goodCodeI_any A c cs w B h)
    rcases hg : goodCodeB cs with _ | _
    · rw [hg] at HC
      clear hg hb
      go_enter Try.func29, Try.ntmps29
      go_wp2_with (go_at_call 66; (with_reducible refine (HC.out).mono ?_); rintro e w1 ⟨rfl, rfl⟩)
      go_ret2
      exact ⟨none, 0, rfl, own_nil _ _ _, Below.refl _ _⟩
    · have hout := rowB_no hb hg
      rw [hg] at HC
      clear hg hb
      by_cases hn : n < 0
      · clear hout
        go_enter Try.func29, Try.ntmps29
        go_wp2_with (go_at_call 66; (with_reducible refine (HC.out).mono ?_); rintro e w1 ⟨rfl, rfl⟩)
        go_ret2
        exact ⟨none, 0, rfl, own_nil _ _ _, Below.refl _ _⟩
      · have hn2 : 20 < n := by omega
        clear hout
        go_enter Try.func29, Try.ntmps29
        go_wp2_with (go_at_call 66; (with_reducible refine (HC.out).mono ?_); rintro e w1 ⟨rfl, rfl⟩)
        go_ret2
        exact ⟨none, 0, rfl, own_nil _ _ _, Below.refl _ _⟩
  · obtain ⟨hg, k, rfl, hk⟩ := rowB_of hb
    have e1 : rowV cs k = rowM cs (k + 1) := by rw [rowV, hb]; simp
    rw [e1, rowM_len]
    exact rowI_loop A c cs k w B hB h hg hk

set_option maxHeartbeats 800000 in
theorem rowS_any (A : Option Addr) (c : Nat) (cs : List Int) (n : Int) (w : World) (B : Nat) (hB : B ≤ w.heap.size) (h : RdI w B A c cs) :
    Calls Try.prog 28 #[.slice A cs.length c, .int .i64 n] w fun e w' => ∃ A' c', e = .returned (.tuple #[.slice A' (rowV cs n).length c', .bool (rowB cs n)]) ∧ OwnI w' w.heap.size (.slice A' (rowV cs n).length c') (rowV cs n) ∧ Below w.heap.size w w' := by
  rcases hb : rowB cs n with _ | _
  · have e1 : rowV cs n = [] := by rw [rowV, hb]; rfl
    rw [e1]
    have HC := Lib.hid (goodCodeS_any A c cs w B h)
    rcases hg : goodCodeB cs with _ | _
    · rw [hg] at HC
      clear hg hb
      go_enter Try.func28, Try.ntmps28
      go_wp2_with (go_at_call 63; (with_reducible refine (HC.out).mono ?_); rintro e w1 ⟨rfl, rfl⟩)
      go_ret2
      exact ⟨none, 0, rfl, own_nil _ _ _, Below.refl _ _⟩
    · have hout : inB n 0 20 = false := by unfold rowB at hb; rw [hg, Bool.true_and] at hb; exact hb
      rw [hg] at HC
      clear hg hb
      go_enter Try.func28, Try.ntmps28
      go_wp2_with (first | (go_at_call 63; (with_reducible refine (HC.out).mono ?_); rintro e w1 ⟨rfl, rfl⟩) | (go_at_call 69; (with_reducible refine (l1In_any _ _ _ _).mono ?_); rintro e w1 ⟨rfl, rfl⟩; rw [hout]))
      go_ret2
      exact ⟨none, 0, rfl, own_nil _ _ _, Below.refl _ _⟩
  · obtain ⟨hg, k, rfl, hk⟩ := rowB_of hb
    have e1 : rowV cs k = rowM cs (k + 1) := by rw [rowV, hb]; simp
    rw [e1, rowM_len]
    exact rowS_loop A c cs k w B hB h hg hk

theorem RdI.of_own {w : World} {base : Nat} {A : Option Addr} {n c : Nat} {k : Int} (h : Own w base 3 (.slice A n c) (ints (numRow k n))) : RdI w w.heap.size A c (numRow k n) := Own.rd h
set_option maxRecDepth 100000 in
set_option maxHeartbeats 1600000 in
theorem lawRow (a : Option Addr) (len cap : Nat) (zs : List Int) (n : Int) (w : World) (h : IsRow .i64 w a len cap zs) (hn : (Lit.int .i64 n).wf = true) :
    Calls Try.prog 6 #[.slice a len cap, .int .i64 n] w fun e w' => e = .returned (.bool true) ∧ Below w.heap.size w w' := by
  clear hn
  obtain ⟨hr, hl⟩ := h.rd
  clear h
  generalize zs.take len = xs at hr hl
  subst hl
  have h1 := hr.len
  have h2 := hr.max
  by_cases hbig : 1048576 < xs.length
  · go_enter Try.func6, Try.ntmps6
    go_wp2
    go_ret
    exact ⟨rfl, Below.refl _ _⟩
  have hsm : xs.length ≤ 1048576 := by omega
  have g0 := Below.refl w.heap.size w
  have hRl := rowV_len xs n
  have HS := Lib.hid fun A c W => rowS_any A c xs n W W.heap.size (Nat.le_refl _)
  have HI := Lib.hid fun A c W => rowI_any A c xs n W W.heap.size (Nat.le_refl _)
  obtain ⟨R, hR⟩ : ∃ R, R = rowV xs n := ⟨_, rfl⟩
  obtain ⟨ok, hok⟩ : ∃ ok, ok = rowB xs n := ⟨_, rfl⟩
  rw [← hR, ← hok] at HS HI
  rw [← hR] at hRl
  clear hR hok
  have hbe : (ok != ok) = false := by cases ok <;> rfl
  have hRR : decide (R = R) = true := decide_eq_true rfl
  have hxx : decide (xs = xs) = true := decide_eq_true rfl
  go_enter Try.func6, Try.ntmps6
  go_wp2_with fail
  ((with_reducible refine (toIntS_any _ _ xs _ _ g0.size (hr.below g0 (Nat.le_refl _)) hsm).mono ?_); rintro e w1 ⟨A1, c1, rfl, ho1, hb1⟩)
  have g1 := gtr g0 hb1
  go_wp2_with fail
  ((with_reducible refine (HS.out A1 c1 _ (ho1.rd rfl)).mono ?_); rintro e w3 ⟨A3, c3, rfl, ho3, hb3⟩)
  have g3 := gtr g1 hb3
  have hs3 : RdI w3 w3.heap.size A3 c3 R := ho3.rd rfl
  clear ho1 ho3 hb1
  go_wp2_with fail
  ((with_reducible refine (toIntS_any _ _ xs _ _ g3.size (hr.below g3 (Nat.le_refl _)) hsm).mono ?_); rintro e w4 ⟨A4, c4, rfl, ho4, hb4⟩)
  have g4 := gtr g3 hb4
  have hs4 := hs3.below hb4 (Nat.le_refl _)
  have hz4 := hb4.size
  have HBLK4 : Hid (∀ k, (Value.slice A4 xs.length c4).ownBlock = some k → k < w4.heap.size) := fun k hk => ((own_ints.1 ho4).lt k hk).2
  clear hs3
  go_wp2_with fail
  ((with_reducible refine (HI.out A4 c4 _ (ho4.rd rfl)).mono ?_); rintro e w6 ⟨A6, c6, rfl, ho6, hb6⟩)
  have g6 := gtr g4 hb6
  have hz6 := hb6.size
  have hx6 := ho4.below hb6
  have hs6 := hs4.below hb6 (by omega)
  clear ho4 hs4 hb4 hb6
  clear hb3
  have hzw3 := g3.size
  go_wp2_with fail
  ((with_reducible refine (eqIntS_any _ _ _ _ R R _ _ (Nat.le_refl _) (ho6.rd rfl) (hs6.more (by omega))).mono ?_); rintro e w7 ⟨rfl, hb7⟩)
  have g7 := gtr g6 hb7
  have hz7 := hb7.size
  have ho7 := ho6.below hb7
  have hx7 := hx6.below hb7
  have hs7 := hs6.below hb7 (by omega)
  clear ho6 hx6 hs6 hb7
  go_wp2_with fail
  ((with_reducible refine (toIntS_any _ _ xs _ _ g7.size (hr.below g7 (Nat.le_refl _)) hsm).mono ?_); rintro e w8 ⟨A8, c8, rfl, hy8, hb8⟩)
  have g8 := gtr g7 hb8
  have hz8 := hb8.size
  have ho8 := ho7.below hb8
  have hx8 := hx7.below hb8
  have hs8 := hs7.below hb8 (by omega)
  clear ho7 hx7 hs7 hb8
  go_wp2_with fail
  ((with_reducible refine (eqIntS_any _ _ _ _ xs xs _ _ (Nat.le_refl _) (hx8.rd rfl) (hy8.rd rfl)).mono ?_); rintro e w9 ⟨rfl, hb9⟩)
  have g9 := gtr g8 hb9
  have hz9 := hb9.size
  have ho9 := ho8.below hb9
  have hx9 := own_ints.1 (hx8.below hb9)
  have hs9 := hs8.below hb9 (by omega)
  clear ho8 hx8 hs8 hb9 hy8
  have hb46 : ∀ k, (Value.slice A4 xs.length c4).ownBlock = some k → w3.heap.size ≤ k ∧ k < w4.heap.size := fun k hk => ⟨(hx9.lt k hk).1, HBLK4.out k hk⟩
  have HB46 := Lib.hid hb46; clear hb46
  go_wp2_with fail
  ((with_reducible refine (markRow_any _ _ _ _ _ _ hx9 (by decide) (by omega)).mono ?_); rintro e w10 ⟨rfl, _, hg10⟩)
  have hz10 := hg10.size
  have g10 : Below w.heap.size w w10 := g9.grown hg10 (by have := g9.size; omega) fun k hk => by have := HB46.out k hk; omega
  have hne6 : (Value.slice A6 R.length c6).ownBlock = none ∨ (Value.slice A6 R.length c6).ownBlock ≠ (Value.slice A4 xs.length c4).ownBlock := by
    rcases hob : (Value.slice A6 R.length c6).ownBlock with _ | k
    · exact .inl rfl
    · refine .inr fun e => ?_
      have := ((own_ints.1 ho9).lt k hob).1
      have := HB46.out k e.symm
      omega
  have ho10 := (own_ints.1 ho9).grown hg10 hne6
  have hs10 : RdI w10 w3.heap.size A3 c3 R := Rd.grown (lo := 0) hs9 (fun _ _ => Nat.zero_le _) hg10 (by omega) fun k hk => .inr (HB46.out k hk).1
  clear ho9 hx9 hs9 hg10 hne6
  go_wp2_with fail
  ((with_reducible refine (eqIntS_any _ _ _ _ R R _ _ (Nat.le_refl _) ((own_ints.2 ho10).rd rfl) (hs10.more (by omega))).mono ?_); rintro e w11 ⟨rfl, hb11⟩)
  have g11 := gtr g10 hb11
  have hz11 := hb11.size
  have ho11 := ho10.below hb11
  have hs11 := hs10.below hb11 (by omega)
  clear ho10 hs10 hb11
  have hb6k : ∀ k, (Value.slice A6 R.length c6).ownBlock = some k → w4.heap.size ≤ k := fun k hk => (ho11.lt k hk).1
  go_wp2_with fail
  ((with_reducible refine (markRow_any _ _ _ _ _ _ ho11 (by decide) (by omega)).mono ?_); rintro e w12 ⟨rfl, ho12, hg12⟩)
  have hz12 := hg12.size
  have g12 : Below w.heap.size w w12 := g11.grown hg12 (by have := g11.size; omega) fun k hk => by have := hb6k k hk; omega
  have hs12 : RdI w12 w3.heap.size A3 c3 R := Rd.grown (lo := 0) hs11 (fun _ _ => Nat.zero_le _) hg12 (by omega) fun k hk => .inr (by have := hb6k k hk; omega)
  clear ho11 hs11 hg12 hb6k
  have hnr : RdI w12 w12.heap.size A6 c6 (numRow 1 R.length) := RdI.of_own ho12
  go_wp2_with fail
  ((with_reducible refine (heldRow_any _ _ _ _ _ _ hnr (by decide) (by omega)).mono ?_); rintro e w12' ⟨rfl, rfl⟩)
  go_wp2_with fail
  ((with_reducible refine (toIntS_any _ _ xs _ _ g12.size (hr.below g12 (Nat.le_refl _)) hsm).mono ?_); rintro e w13 ⟨A13, c13, rfl, ho13, hb13⟩)
  have g13 := gtr g12 hb13
  have hz13 := hb13.size
  have hs13 := hs12.below hb13 (by omega)
  have hn13 := hnr.below hb13 (Nat.le_refl _)
  clear hs12 hb13
  go_wp2_with fail
  ((with_reducible refine (HI.out A13 c13 _ (ho13.rd rfl)).mono ?_); rintro e w15 ⟨A15, c15, rfl, ho15, hb15⟩)
  have g15 := gtr g13 hb15
  have hz15 := hb15.size
  have hs15 := hs13.below hb15 (by omega)
  have hn15 := hn13.below hb15 (by omega)
  clear hs13 hn13 hb15
  go_wp2_with fail
  ((with_reducible refine (eqIntS_any _ _ _ _ R R _ _ (Nat.le_refl _) (ho15.rd rfl) (hs15.more (by omega))).mono ?_); rintro e w16 ⟨rfl, hb16⟩)
  have g16 := gtr g15 hb16
  have hn16 := hn15.below hb16 (by omega)
  go_wp2_with fail
  ((with_reducible refine (heldRow_any _ _ _ _ _ _ hn16 (by decide) (by omega)).mono ?_); rintro e w17 ⟨rfl, rfl⟩)
  go_wp2
  go_ret
  exact ⟨rfl, g16⟩
end Go.Proofs.Ytdckgplmkigjcaa
