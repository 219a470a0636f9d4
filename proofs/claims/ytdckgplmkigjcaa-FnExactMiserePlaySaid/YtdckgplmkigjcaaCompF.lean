/- slices.Equal and slices.CompactFunc at rows of heaps, by contracts. Conditions: none. -/
import Derived.Test.YtdckgplmkigjcaaRSort
import Derived.Lib.SliceRun
import Derived.Deep.LoopGhost
import Derived.Deep.QuietTactic
namespace Go.Proofs.Ytdckgplmkigjcaa
open Go.RowKit
set_option linter.unusedVariables false

set_option maxHeartbeats 800000 in
theorem sEqual_any (A A' : Option Addr) (c c' : Nat) (xs ys : List Int) (w : World) (B : Nat) (h : RdI w B A c xs) (h' : RdI w B A' c' ys) :
    Calls Try.prog 113 #[.slice A xs.length c, .slice A' ys.length c'] w fun e w' => e = .returned (.bool (decide (xs = ys))) ∧ ∃ m, w' = w.drewN m := by
  have h1 := h.len
  have h2 := h.max
  have h3 := h'.len
  have h4 := h'.max
  by_cases hl : xs.length = ys.length
  · have hne : ((xs.length : Int) != (ys.length : Int)) = false := by simp [hl]
    have HL := Lib.hid hl; clear hl
    go_enter Try.func113, Try.ntmps113
    go_wp2
    go_loopw [13] (fun i wr => ∃ k m : Nat, i = .int .i64 k ∧ k ≤ xs.length ∧ (∀ j, j < k → gi xs j = gi ys j) ∧ wr = w.drewN m)
      (fun i _ => xs.length - (intOf i).toNat)
    case atStart => exact ⟨0, 0, rfl, by omega, fun j hj => absurd hj (by omega), rfl⟩
    case round =>
      obtain ⟨k, m, rfl, hk, hs, hw⟩ := hrel
      have HS := Lib.hid hs; clear hs
      by_cases hlt : k < xs.length
      · have hlt' : k < ys.length := by rw [← HL.out]; exact hlt
        obtain ⟨b, o, rfl, hbB, hc⟩ := h.at (j := k) hlt
        obtain ⟨b', o', rfl, hbB', hc'⟩ := h'.at (j := k) hlt'
        have hc1 : wr.cell? ⟨b, o + k, none⟩ = some (.int .i64 (gi xs k)) := by rw [hw]; exact hc k hlt
        have hc2 : wr.cell? ⟨b', o' + k, none⟩ = some (.int .i64 (gi ys k)) := by rw [hw]; exact hc' k hlt'
        have HW := Lib.hid hw
        clear hc hc' hw
        by_cases he : gi xs k = gi ys k
        · have ht : (gi xs k != gi ys k) = false := by simp [he]
          have HE := Lib.hid he; clear he
          go_wp2
          go_quiet (fail)
          go_wp2
          go_roundw
          case rel => exact ⟨k + 1, _, by go_num, by omega, fun j hj => if hjk : j = k then by subst hjk; exact HE.out else HS.out j (by omega), by rw [HW.out]; exact World.drewN_drewN _ _ _⟩
          case measure => simp [intOf]; omega
        · have ht : (gi xs k != gi ys k) = true := by simp [he]
          have HE := Lib.hid he; clear he
          go_wp2
          go_quiet (fail)
          go_wp2
          go_ret
          refine ⟨ret_bool ?_, _, by rw [HW.out]; exact World.drewN_drewN _ _ _⟩
          rw [Bool.false_eq, decide_eq_false_iff_not]
          intro hxy
          exact HE.out (by rw [hxy])
      · have HW := Lib.hid hw
        clear hw
        go_wp2
        go_ret
        refine ⟨ret_bool ?_, m, HW.out⟩
        rw [Bool.true_eq, decide_eq_true_eq]
        refine List.ext_getElem HL.out fun j hj hj' => ?_
        have := HS.out j (by omega)
        simpa [gi, hj, hj'] using this
  · have hne : ((xs.length : Int) != (ys.length : Int)) = true := by simp; omega
    have hxy : ¬ xs = ys := fun h => hl (by rw [h])
    go_enter Try.func113, Try.ntmps113
    go_wp2
    go_ret
    exact ⟨by simp [hxy], 0, rfl⟩

/-- The i-th pair. -/
def gpr (M : List (Value × List Int)) (i : Nat) : Value × List Int := M.getD i (.slice none 0 0, [])
theorem gpr_lt {M : List (Value × List Int)} {i : Nat} (h : i < M.length) : gpr M i = M[i] := by simp [gpr, h]
theorem gpr_mem {M : List (Value × List Int)} {i : Nat} (h : i < M.length) : gpr M i ∈ M := by rw [gpr_lt h]; exact List.getElem_mem h
/-- What is kept of the first j: what isn't as its neighbour ahead. -/
def kp (M : List (Value × List Int)) : Nat → List (Value × List Int)
  | 0 => []
  | j + 1 => if j = 0 ∨ (gpr M j).2 ≠ (gpr M (j - 1)).2 then kp M j ++ [gpr M j] else kp M j
theorem kp_len (M : List (Value × List Int)) (j : Nat) : (kp M j).length ≤ j := by
  induction j with
  | zero => exact Nat.le_refl _
  | succ j ih =>
    unfold kp
    split
    · rw [List.length_append, List.length_singleton]; omega
    · omega
theorem take_gpr (M : List (Value × List Int)) (j : Nat) (h : j < M.length) : M.take (j + 1) = M.take j ++ [gpr M j] := by
  rw [List.take_add_one, List.getElem?_eq_getElem h, gpr_lt h]; rfl
theorem kp_sub (M : List (Value × List Int)) (j : Nat) (h : j ≤ M.length) : (kp M j).Sublist (M.take j) := by
  induction j with
  | zero => exact List.Sublist.refl _
  | succ j ih =>
    rw [take_gpr M j h]
    unfold kp
    split
    · exact (ih (by omega)).append (List.Sublist.refl _)
    · exact (ih (by omega)).trans (List.sublist_append_left _ _)
theorem kp_all (M : List (Value × List Int)) (j : Nat) (h : j ≤ M.length) (hn : ∀ i, 0 < i → i < j → (gpr M i).2 ≠ (gpr M (i - 1)).2) : kp M j = M.take j := by
  induction j with
  | zero => rfl
  | succ j ih =>
    rw [take_gpr M j h]
    unfold kp
    rw [if_pos, ih (by omega) fun i h0 hi => hn i h0 (by omega)]
    rcases Nat.eq_zero_or_pos j with e | e
    · exact .inl e
    · exact .inr (hn j e (Nat.lt_succ_self _))
theorem kp_mem (M : List (Value × List Int)) (j : Nat) (h : j ≤ M.length) (x : List Int) : x ∈ (kp M j).map (·.2) ↔ x ∈ (M.take j).map (·.2) := by
  induction j with
  | zero => exact Iff.rfl
  | succ j ih =>
    have ih := ih (by omega)
    rw [take_gpr M j h]
    unfold kp
    split
    · simp only [List.map_append, List.mem_append, ih]
    · rename_i hc
      simp only [List.map_append, List.mem_append, ih]
      constructor
      · exact fun h => .inl h
      · rintro (h | h)
        · exact h
        · have h0 : 0 < j := by omega
          have he : (gpr M j).2 = (gpr M (j - 1)).2 := by
            apply Classical.byContradiction
            intro hne
            exact hc (.inr hne)
          simp only [List.map_cons, List.map_nil, List.mem_singleton] at h
          rw [h, he, gpr_lt (by omega)]
          refine List.mem_map.2 ⟨_, ?_, rfl⟩
          rw [List.mem_take_iff_getElem]
          exact ⟨j - 1, by omega, rfl⟩
theorem kp_ris (M : List (Value × List Int)) (hs : (M.map (·.2)).Pairwise (fun a b => aheadB b a = false)) (j : Nat) (h : j ≤ M.length) : Sorted ((kp M j).map (·.2)) := by
  rw [List.pairwise_map, List.pairwise_iff_getElem] at hs
  have hle : ∀ i k, i ≤ k → k < M.length → aheadB (gpr M k).2 (gpr M i).2 = false := fun i k hik hk => by
    rcases Nat.eq_or_lt_of_le hik with e | e
    · rw [e]; exact ahead_irrefl _
    · rw [gpr_lt hk, gpr_lt (by omega)]
      exact hs i k (by omega) hk e
  induction j with
  | zero => exact List.Pairwise.nil
  | succ j ih =>
    have ih := ih (by omega)
    unfold kp
    split
    · rename_i hc
      unfold Sorted at ih ⊢
      rw [List.map_append, List.pairwise_append]
      refine ⟨ih, by simp, fun a ha b hb => ?_⟩
      simp only [List.map_cons, List.map_nil, List.mem_singleton] at hb
      subst hb
      rw [kp_mem M j (by omega)] at ha
      obtain ⟨x, hx, rfl⟩ := List.mem_map.1 ha
      rw [List.mem_take_iff_getElem] at hx
      obtain ⟨i, hi, rfl⟩ := hx
      have hij : i < j := by omega
      have hiM : i < M.length := by omega
      rw [← gpr_lt hiM]
      have hne : (gpr M j).2 ≠ (gpr M (j - 1)).2 := by
        rcases hc with e | e
        · omega
        · exact e
      have h1 : aheadB (gpr M (j - 1)).2 (gpr M j).2 = true := by
        cases hk : aheadB (gpr M (j - 1)).2 (gpr M j).2
        · exact absurd (ahead_tri (hle (j - 1) j (by omega) (by omega)) hk) hne
        · rfl
      cases hk : aheadB (gpr M i).2 (gpr M j).2
      · have h2 := hle i (j - 1) (by omega) (by omega)
        have h3 := ahead_nt h2 hk
        rw [h1] at h3; cases h3
      · rfl
    · exact ih

/-- A row's cells written on: what is left of the block. -/
theorem blk_setCells {g : Nat} {E : TypeId} : ∀ (vs : List Value) (o : Nat) (w : World) (cur : Array Value), Blk w g E cur → ∃ cur', Blk (w.setCells g o vs) g E cur' ∧ cur'.size = cur.size ∧ ∀ i, i < o → cur'[i]? = cur[i]?
  | [], _, w, cur, h => ⟨cur, h, rfl, fun _ _ => rfl⟩
  | v :: r, o, w, cur, h => by
    obtain ⟨cur', h1, h2, h3⟩ := blk_setCells r (o + 1) _ _ (h.set o v)
    refine ⟨cur', h1, by rw [h2, Array.size_setIfInBounds], fun i hi => ?_⟩
    rw [h3 i (by omega), Array.getElem?_setIfInBounds, if_neg (by omega)]
theorem grown_setCell {w w' : World} {g : Nat} (h : w.grownBy w' (some g)) (o : Nat) (v : Value) : w.grownBy (w'.setCell ⟨g, o, none⟩ v) (some g) :=
  ⟨h.os, h.tape, h.output, by simpa using h.size, fun k hk hne => by rw [Below.heap_setCell _ _ _ _ (fun e => hne (by rw [e]))]; exact h.block k hk hne⟩
theorem grown_setCells {w : World} {g : Nat} : ∀ (vs : List Value) (o : Nat) (w' : World), w.grownBy w' (some g) → w.grownBy (w'.setCells g o vs) (some g)
  | [], _, _, h => h
  | v :: r, o, w', h => grown_setCells r (o + 1) _ (grown_setCell h o v)
theorem grefl' (w : World) (row : Option Nat) : w.grownBy w row := ⟨rfl, rfl, rfl, Nat.le_refl _, fun _ _ _ => rfl⟩
theorem grown_drewN {w w' : World} {r : Option Nat} (h : w.grownBy w' r) (n : Nat) : w.grownBy (w'.drewN n) r := ⟨h.os, h.tape, h.output, h.size, h.block⟩
theorem Own.of_cells {w : World} {base g n cap : Nat} {E : TypeId} {cur : Array Value} {cs : List Value} (hb : base ≤ g) (h : Blk w g E cur) (hn : n ≤ cap) (hm : cap ≤ maxLen) (hs : cur.size = cap) (hl : cs.length = n) (hc : ∀ i, i < n → cur[i]? = cs[i]?) :
    Own w base E (.slice (some ⟨g, 0, none⟩) n cap) cs := by
  unfold Own
  refine ⟨by omega, .inr ⟨g, cap, cur, by rw [hl], hb, h, by omega, hm, by omega, ?_⟩⟩
  apply List.ext_getElem?
  intro i
  rw [List.getElem?_take, Array.getElem?_toList]
  by_cases hi : i < n
  · rw [if_pos (by omega), hc i hi]
  · rw [if_neg (by omega), List.getElem?_eq_none (by omega)]

theorem kp_dup (M : List (Value × List Int)) (k : Nat) (hk : 0 < k) (hd : (gpr M k).2 = (gpr M (k - 1)).2) (j : Nat) (h : k < j) : (kp M j).length + 1 ≤ j := by
  induction j with
  | zero => omega
  | succ j ih =>
    rcases Nat.lt_or_ge k j with hkj | hkj
    · have := ih hkj
      unfold kp
      split
      · rw [List.length_append, List.length_singleton]; omega
      · omega
    · obtain rfl : k = j := by omega
      unfold kp
      rw [if_neg (by rintro (e | e); omega; exact e hd)]
      have := kp_len M k
      omega
theorem kp_same (M : List (Value × List Int)) (j : Nat) (h0 : 0 < j) (h : (gpr M j).2 = (gpr M (j - 1)).2) : kp M (j + 1) = kp M j := by
  show (if _ then _ else _) = _
  rw [if_neg (by rintro (e | e); omega; exact e h)]
theorem kp_next (M : List (Value × List Int)) (j : Nat) (h : (gpr M j).2 ≠ (gpr M (j - 1)).2) : kp M (j + 1) = kp M j ++ [gpr M j] := by
  show (if _ then _ else _) = _
  rw [if_pos (.inr h)]

set_option maxRecDepth 100000 in
set_option maxHeartbeats 1600000 in
theorem compactRows_any (g cap base : Nat) (M : List (Value × List Int)) (w : World) (hR : ∀ x ∈ M, RdX w g x.1 x.2) (hn : M.length ≤ 1000000)
    (ho : Own w base 22 (.slice (some ⟨g, 0, none⟩) M.length cap) (M.map (·.1))) :
    Calls Try.prog 112 #[.slice (some ⟨g, 0, none⟩) M.length cap, .func (.func 113) #[] #[]] w fun e w' =>
      e = .returned (.slice (some ⟨g, 0, none⟩) (kp M M.length).length cap) ∧ Own w' base 22 (.slice (some ⟨g, 0, none⟩) (kp M M.length).length cap) ((kp M M.length).map (·.1)) ∧ w.grownBy w' (some g) := by
  obtain ⟨hb, hnc, hmx, cur, hB, hsz, hat⟩ : base ≤ g ∧ M.length ≤ cap ∧ cap ≤ maxLen ∧ ∃ cur : Array Value, Blk w g 22 cur ∧ cur.size = cap ∧ ∀ i, i < M.length → cur[i]? = some (gpr M i).1 := by
    rcases ho.2 with ⟨e0, _⟩ | ⟨g', cap', cur, e0, hb, hg, hn', hm, hs, ht⟩
    · cases e0
    · injection e0 with e1 e2 e3
      injection e1 with e1
      injection e1 with e1
      subst e1 e3
      refine ⟨hb, by omega, hm, cur, hg, by omega, fun i hi => ?_⟩
      have e4 : (cur.toList.take ((M.map (·.1)).length * 1))[i]? = (M.map (·.1))[i]? := by rw [ht]
      rw [List.getElem?_take, List.length_map, if_pos (by omega), Array.getElem?_toList, List.getElem?_map, List.getElem?_eq_getElem hi] at e4
      rw [e4, gpr_lt hi]; rfl
  have HO := Lib.hid ho
  clear ho
  have hEQ : ∀ (W : World) (i j m : Nat), w.grownBy W (some g) → i < M.length → j < M.length →
      Calls Try.prog 113 #[(gpr M i).1, (gpr M j).1] (W.drewN m) fun e w' => e = .returned (.bool (decide ((gpr M i).2 = (gpr M j).2))) ∧ ∃ m', w' = (W.drewN m).drewN m' := fun W i j m hW hi hj => by
    have hg := grown_drewN hW m
    obtain ⟨A, c, e1, r1, _⟩ := (hR (gpr M i) (gpr_mem hi)).grown hg
    obtain ⟨A', c', e2, r2, _⟩ := (hR (gpr M j) (gpr_mem hj)).grown hg
    rw [e1, e2]
    exact sEqual_any A A' c c' _ _ _ _ r1 r2
  have HEQ := Lib.hid hEQ
  have hRs : ∀ i, i < M.length → ∃ A n c, (gpr M i).1 = .slice A n c := fun i hi => by
    obtain ⟨A, c, e1, _⟩ := hR (gpr M i) (gpr_mem hi)
    exact ⟨A, _, c, e1⟩
  have HRS := Lib.hid hRs
  clear hEQ hR hRs
  obtain ⟨n, hN⟩ : ∃ n, n = M.length := ⟨_, rfl⟩
  rw [← hN] at hn hnc hat HEQ HO HRS ⊢
  have HN := Lib.hid hN; clear hN
  obtain ⟨o, ho⟩ : ∃ o : Nat, o = 0 := ⟨_, rfl⟩
  have HOF := Lib.hid ho
  have hmx2 : cap ≤ 9223372036854775807 := by unfold maxLen at hmx; exact hmx
  have HAT := Lib.hid hat; have HSZ := Lib.hid hsz; have HB := Lib.hid hB; have HBG := Lib.hid hb; have HMX := Lib.hid hmx
  clear hat hsz hB hb hmx
  rw [← ho]
  clear ho
  by_cases h2 : n < 2
  · have HK : Hid (kp M n = M) := by
      show _ = _
      rw [kp_all M n (by rw [HN.out]; exact Nat.le_refl _) (fun i h0 hi => by omega), HN.out, List.take_length]
    go_enter Try.func112, Try.ntmps112
    go_wp2
    go_ret
    rw [HK.out, ← HN.out, HOF.out]
    exact ⟨rfl, HO.out, grefl' _ _⟩
  · go_enter Try.func112, Try.ntmps112
    go_wp2
    go_loopw [5] (fun s5 wr => ∃ k m : Nat, s5 = .int .i64 ((k : Int) + 1) ∧ k + 1 ≤ n ∧ (∀ i, 0 < i → i < k + 1 → (gpr M i).2 ≠ (gpr M (i - 1)).2) ∧ wr = w.drewN m) (fun i _ => n - (intOf i).toNat)
    case atStart => exact ⟨0, 0, rfl, by omega, fun i h0 hi => by omega, rfl⟩
    case round =>
      obtain ⟨k, m, rfl, hk, hall, hw⟩ := hrel
      have HALL := Lib.hid hall; have HW := Lib.hid hw
      clear hall hw
      by_cases hlt : k + 1 < n
      · have hltI : (k : Int) + 1 < (n : Int) := by omega
        obtain ⟨A1, n1, c1, e1⟩ := HRS.out (k + 1) hlt
        obtain ⟨A0, n0, c0, e0⟩ := HRS.out k (by omega)
        have q1 : wr.cell? ⟨g, o + (k + 1), none⟩ = some (.slice A1 n1 c1) := by
          rw [HW.out, HOF.out, Nat.zero_add]; show w.cell? _ = _; rw [HB.out.cell, HAT.out _ hlt, e1]
        have q0 : wr.cell? ⟨g, o + k, none⟩ = some (.slice A0 n0 c0) := by
          rw [HW.out, HOF.out, Nat.zero_add]; show w.cell? _ = _; rw [HB.out.cell, HAT.out _ (by omega), e0]
        have hcall := fun j => HEQ.out wr (k + 1) k j (by rw [HW.out]; exact grown_drewN (grefl' _ _) _) hlt (by omega)
        rw [e1, e0] at hcall
        have HC := Lib.hid hcall
        have E1 := Lib.hid e1; have E0 := Lib.hid e0
        clear e1 e0 hcall
        by_cases hd : (gpr M (k + 1)).2 = (gpr M k).2
        · rw [decide_eq_true hd] at HC
          have HD := Lib.hid hd; clear hd
          go_wp2
          go_quiet ((go_at_call 113; (with_reducible exact Calls.quiet_of (HC.out _))))
          go_wp2
          have hW0 : wr.drewN nq = w.drewN (m + nq) := by rw [HW.out]; exact World.drewN_drewN _ _ _
          have HGW : Hid (w.grownBy (wr.drewN nq) (some g)) := by show World.grownBy _ _ _; rw [hW0]; exact grown_drewN (grefl' _ _) _
          have HBW : Hid (Blk (wr.drewN nq) g 22 cur) := by show Blk _ _ _ _; rw [hW0]; exact HB.out
          clear q1 q0 hW0
          generalize wr.drewN nq = W0 at *
          have e2 : kp M (k + 1 + (0 + 1)) = M.take (k + 1) := by
            rw [show k + 1 + (0 + 1) = (k + 1) + 1 from rfl, kp_same M (k + 1) (by omega) HD.out]
            exact kp_all M (k + 1) (by have := HN.out; omega) HALL.out
          have hMl : M.length = n := HN.out.symm
          go_loopw [5, 7] (fun s5 s7 wi => ∃ (k2 kl : Nat) (cu : Array Value), s7 = .int .i64 ((k2 : Int) + 1) ∧ s5 = .int .i64 kl ∧ kl = (kp M (k + 1 + (k2 + 1))).length ∧ k + 1 + (k2 + 1) ≤ n ∧ Blk wi g 22 cu ∧ cu.size = cap ∧ (∀ i, i < kl → cu[i]? = ((kp M (k + 1 + (k2 + 1))).map (·.1))[i]?) ∧ (∀ i, k + 1 + k2 ≤ i → i < n → cu[i]? = some (gpr M i).1) ∧ w.grownBy wi (some g)) (fun _ i _ => n - (intOf i).toNat)
          case atStart =>
            refine ⟨0, k + 1, cur, rfl, by go_num, by rw [e2, List.length_take]; omega, by omega, HBW.out, HSZ.out, fun i hi => ?_, fun i _ hi => HAT.out i hi, HGW.out⟩
            rw [e2, HAT.out i (by omega), List.getElem?_map, List.getElem?_take, if_pos hi, List.getElem?_eq_getElem (by omega), gpr_lt (by omega)]
            rfl
          case round =>
            clear e2
            obtain ⟨k2, kl, cu, rfl, rfl, hkl, hle, hBi, hsi, hlo, hhi, hgi⟩ := hrel
            obtain ⟨wi, rfl⟩ : ∃ wi, wi = wr := ⟨_, rfl⟩
            have hdup := kp_dup M (k + 1) (by omega) HD.out (k + 1 + (k2 + 1)) (by omega)
            rw [← hkl] at hdup
            have HKL := Lib.hid hkl; have HBI := Lib.hid hBi; have HSI := Lib.hid hsi; have HLO := Lib.hid hlo; have HHI := Lib.hid hhi; have HGI := Lib.hid hgi
            clear hkl hBi hsi hlo hhi hgi HGW HBW
            by_cases hlt2 : k + 1 + (k2 + 1) < n
            · have hI2 : (k2 : Int) + 1 < ((n - (k + 1) : Nat) : Int) := by omega
              obtain ⟨A3, n3, c3, e3⟩ := HRS.out (k + 1 + (k2 + 1)) hlt2
              obtain ⟨A4, n4, c4, e4⟩ := HRS.out (k + 1 + k2) (by omega)
              have p3 : wi.cell? ⟨g, o + (k + 1) + (k2 + 1), none⟩ = some (.slice A3 n3 c3) := by
                rw [HOF.out, show 0 + (k + 1) + (k2 + 1) = k + 1 + (k2 + 1) by omega, HBI.out.cell, HHI.out _ (by omega) hlt2, e3]
              have p4 : wi.cell? ⟨g, o + (k + 1) + k2, none⟩ = some (.slice A4 n4 c4) := by
                rw [HOF.out, show 0 + (k + 1) + k2 = k + 1 + k2 by omega, HBI.out.cell, HHI.out _ (by omega) (by omega), e4]
              have hcall := fun j => HEQ.out wi (k + 1 + (k2 + 1)) (k + 1 + k2) j HGI.out hlt2 (by omega)
              rw [e3, e4] at hcall
              have HC3 := Lib.hid hcall
              have E3 := Lib.hid e3; have E4 := Lib.hid e4
              clear e3 e4 hcall
              by_cases hd2 : (gpr M (k + 1 + (k2 + 1))).2 = (gpr M (k + 1 + k2)).2
              · rw [decide_eq_true hd2] at HC3
                have HD2 : Hid (kp M (k + 1 + (k2 + 1 + 1)) = kp M (k + 1 + (k2 + 1))) := kp_same M (k + 1 + (k2 + 1)) (by omega) hd2
                clear hd2
                go_wp2
                go_quiet ((go_at_call 113; (with_reducible exact Calls.quiet_of (HC3.out _))))
                go_wp2
                go_roundw
                case rel => exact ⟨k2 + 1, kl, cu, by go_num, rfl, by rw [HD2.out]; exact HKL.out, by omega, HBI.out, HSI.out, by rw [HD2.out]; exact HLO.out, fun i h1 h2 => HHI.out i (by omega) h2, grown_drewN HGI.out _⟩
                case measure => simp [intOf]; omega
              · rw [decide_eq_false hd2] at HC3
                have HD2 : Hid (kp M (k + 1 + (k2 + 1 + 1)) = kp M (k + 1 + (k2 + 1)) ++ [gpr M (k + 1 + (k2 + 1))]) := kp_next M (k + 1 + (k2 + 1)) hd2
                clear hd2
                have hlo2 : kl < n := by omega
                have hcap : kl < cap := by omega
                have p5 : ∃ old, wi.cell? ⟨g, o + kl, none⟩ = some old := by
                  rw [HOF.out, Nat.zero_add, HBI.out.cell, Array.getElem?_eq_getElem (by rw [HSI.out]; exact hcap)]
                  exact ⟨_, rfl⟩
                obtain ⟨old, p5⟩ := p5
                have pf := HBI.out.frozen (o + kl)
                go_wp2
                go_quiet ((go_at_call 113; (with_reducible exact Calls.quiet_of (HC3.out _))))
                go_wp2
                go_roundw
                case rel =>
                  have hB2 : Blk ((wi.drewN nq).setCell ⟨g, o + kl, none⟩ (.slice A3 n3 c3)) g 22 (cu.setIfInBounds (o + kl) (.slice A3 n3 c3)) := Blk.set (w := wi.drewN nq) HBI.out _ _
                  rw [HOF.out, Nat.zero_add] at hB2
                  refine ⟨k2 + 1, kl + 1, _, by go_num, by go_num, by rw [HD2.out, List.length_append, List.length_singleton, ← HKL.out], by omega, by rw [HOF.out, Nat.zero_add]; exact hB2, by rw [Array.size_setIfInBounds]; exact HSI.out, fun i hi => ?_, fun i h1 h2 => ?_, grown_setCell (grown_drewN HGI.out _) _ _⟩
                  · rw [HD2.out, List.map_append, Array.getElem?_setIfInBounds]
                    by_cases hil : kl = i
                    · rw [if_pos hil, if_pos (by rw [HSI.out]; exact hcap), ← hil, List.getElem?_append_right (by rw [List.length_map, ← HKL.out]; exact Nat.le_refl _), List.length_map, ← HKL.out, Nat.sub_self, ← E3.out]
                      rfl
                    · rw [if_neg hil, List.getElem?_append_left (by rw [List.length_map, ← HKL.out]; omega)]
                      exact HLO.out i (by omega)
                  · rw [Array.getElem?_setIfInBounds, if_neg (by omega)]
                    exact HHI.out i (by omega) h2
                case measure => simp [intOf]; omega
            · have hnI : ¬ (k2 : Int) + 1 < ((n - (k + 1) : Nat) : Int) := by omega
              have hend : k + 1 + (k2 + 1) = n := by omega
              have HEND := Lib.hid hend
              have hkn : kl < n := by omega
              have hkc : kl ≤ cap := by omega
              have hcl : ∀ ty, (Builtin.clear_ #[32] ty #[.slice (some ⟨g, o + kl, none⟩) (n - kl) (cap - kl)]).run Try.prog wi = .ok (.tuple #[]) (wi.setCells g (o + kl) (List.replicate (n - kl) (.slice none 0 0))) := fun ty =>
                Lib.run_clear_slice wi _ _ ty _ Try.underlying32 (fun _ => by kernel_rfl) rfl rfl g (o + kl) _ _ (by omega) (fun j hj => by
                  rw [HOF.out, Nat.zero_add, HBI.out.cell, Array.getElem?_eq_getElem (by rw [HSI.out]; omega)]; rfl) (fun j hj => HBI.out.frozen _)
              clear hend
              go_wp2
              go_ret
              obtain ⟨cu', b1, b2, b3⟩ := blk_setCells (List.replicate (n - kl) (.slice none 0 0)) (o + kl) wi cu HBI.out
              have eo := HOF.out
              have hk' : kl = (kp M n).length := by rw [← HEND.out]; exact HKL.out
              have hl := HLO.out
              rw [HEND.out] at hl
              rw [eo, Nat.zero_add] at b1 b3
              rw [eo, Nat.zero_add kl, ← hk']
              refine ⟨rfl, Own.of_cells HBG.out b1 hkc HMX.out (by rw [b2]; exact HSI.out) (by rw [List.length_map, ← hk']) (fun i hi => ?_), grown_setCells _ _ _ HGI.out⟩
              rw [b3 i (by omega)]
              exact hl i hi
        · rw [decide_eq_false hd] at HC
          have HD := Lib.hid hd; clear hd
          go_wp2
          go_quiet ((go_at_call 113; (with_reducible exact Calls.quiet_of (HC.out _))))
          go_wp2
          go_roundw
          case rel => exact ⟨k + 1, _, by go_num, by omega, fun i h0 hi => if hik : i = k + 1 then by subst hik; exact HD.out else HALL.out i h0 (by omega), by rw [HW.out]; exact World.drewN_drewN _ _ _⟩
          case measure => simp [intOf]; omega
      · have hnk : ¬ (k : Int) + 1 < (n : Int) := by omega
        have hkn : n = k + 1 := by omega
        have HK : Hid (kp M n = M) := by
          show _ = _
          rw [kp_all M n (by rw [HN.out]; exact Nat.le_refl _) (fun i h0 hi => HALL.out i h0 (by omega)), HN.out, List.take_length]
        clear hkn
        go_wp2
        go_ret
        rw [HK.out, ← HN.out, HOF.out]
        refine ⟨rfl, ?_, ?_⟩
        · rw [HW.out]; exact HO.out.below (bdrew (Below.refl _ _) _)
        · rw [HW.out]; exact grown_drewN (grefl' _ _) _
end Go.Proofs.Ytdckgplmkigjcaa
