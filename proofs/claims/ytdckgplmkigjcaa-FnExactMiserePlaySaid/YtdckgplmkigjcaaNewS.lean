/- A new book of the reference. Conditions: none. -/
import Derived.Test.YtdckgplmkigjcaaKeyS
import Derived.RegionTactic
namespace Go.Proofs.Ytdckgplmkigjcaa
open Go.RowKit
set_option linter.unusedVariables false

theorem rep_set (n k : Nat) (u z : Int) (hk : k < n) : (List.replicate k u ++ List.replicate (n - k) z).set k u = List.replicate (k + 1) u ++ List.replicate (n - (k + 1)) z := by
  obtain ⟨m, rfl⟩ : ∃ m, n = k + 1 + m := ⟨n - (k + 1), by omega⟩
  rw [show k + 1 + m - k = m + 1 by omega, show k + 1 + m - (k + 1) = m by omega, List.replicate_succ, List.set_append_right _ _ (by simp)]
  simp [List.replicate_succ', List.append_assoc]
theorem Blk.at_eq {w : World} {g g' : Nat} {t : TypeId} {cs : Array Value} (h : Blk w g t cs) (e : g' = g) : Blk w.drew g' t cs := by subst e; exact h
theorem rep_full (N : Nat) (a b : Int) : List.replicate N a ++ List.replicate (N - N) b = List.replicate N a := by simp
theorem rep_none (N : Nat) (a b : Int) : List.replicate 0 a ++ List.replicate (N - 0) b = List.replicate N b := by simp
theorem ints_rep (n : Nat) (z : Int) : ints (List.replicate n z) = List.replicate n (.int .i64 z) := by simp [ints]

set_option maxRecDepth 100000 in
set_option maxHeartbeats 800000 in
theorem new_any (A : Option Addr) (c : Nat) (cs : List Int) (w : World) :
    Calls Try.prog 48 #[.slice A cs.length c] w fun e w' => ∃ g gk gv, e = .returned (.pointer (some ⟨g, 0, none⟩)) ∧ w.heap.size ≤ g ∧ w.heap.size ≤ gk ∧ w.heap.size ≤ gv ∧
      BookM w' g gk gv A c cs (List.replicate 8192 (-1)) (List.replicate 8192 0) ∧ Below w.heap.size w w' := by
  obtain ⟨C, hC⟩ : ∃ C, C = (ints (List.replicate 8192 0)).toArray := ⟨_, rfl⟩
  have hmk : ∀ w : World, (Instr.makeSlice 22 (.int .i64 8192) (.int .i64 8192)).run Try.prog w = .ok (.slice (some ⟨w.heap.size, 0, none⟩) 8192 8192) (w.alloc (.cells C 3)) := fun w => by
    have := run_make_row' (P := Try.prog) 22 3 (.int .i64 0) 8 Try.underlying22 infoInt rfl .i64 .i64 8192 (by omega) (by omega) w
    rw [made_ints, ← hC] at this
    exact this
  have HC := Lib.hid hC; clear hC
  go_enter Try.func48, Try.ntmps48
  go_wp2
  go_region
  · go_wp2
    obtain ⟨g, hg⟩ : ∃ g, g = w.heap.size + 1 + 1 := ⟨_, rfl⟩
    obtain ⟨gk, hgk⟩ : ∃ gk, gk = w.heap.size := ⟨_, rfl⟩
    obtain ⟨gv, hgv⟩ : ∃ gv, gv = w.heap.size + 1 := ⟨_, rfl⟩
    rw [← hg, ← hgv, ← hgk]
    have n1 : g ≠ gk := by omega
    have n2 : g ≠ gv := by omega
    have n3 : gk ≠ gv := by omega
    have l1 : w.heap.size ≤ g := by omega
    have l2 : w.heap.size ≤ gk := by omega
    have l3 : w.heap.size ≤ gv := by omega
    have hB : Below w.heap.size w (((w.alloc (.cells C 3)).alloc (.cells C 3)).alloc (.cells #[.slice A cs.length c, .slice (some ⟨gk, 0, none⟩) 8192 8192, .slice (some ⟨gv, 0, none⟩) 8192 8192] 79)).drew := Below.drew (((bel1 w _).alloc (by simp) _).alloc (by simp; omega) _)
    have hG : Blk (((w.alloc (.cells C 3)).alloc (.cells C 3)).alloc (.cells #[.slice A cs.length c, .slice (some ⟨gk, 0, none⟩) 8192 8192, .slice (some ⟨gv, 0, none⟩) 8192 8192] 79)).drew g 79 #[.slice A cs.length c, .slice (some ⟨gk, 0, none⟩) 8192 8192, .slice (some ⟨gv, 0, none⟩) 8192 8192] := Blk.below (B := g + 1) (Blk.new_at ((w.alloc (.cells C 3)).alloc (.cells C 3)) 79 _ (by rw [hg]; simp)) ⟨rfl, rfl, rfl, Nat.le_refl _, fun _ _ => rfl⟩ (by omega)
    have b0 : Blk (w.alloc (.cells C 3)) w.heap.size 3 C := Blk.new _ _ _
    have b1 : Blk ((w.alloc (.cells C 3)).alloc (.cells C 3)) (w.heap.size + 1) 3 C := Blk.new_at _ _ _ (by simp)
    have b2 := (b0.alloc (.cells C 3)).alloc (.cells #[.slice A cs.length c, .slice (some ⟨gk, 0, none⟩) 8192 8192, .slice (some ⟨gv, 0, none⟩) 8192 8192] 79)
    have b3 := b1.alloc (.cells #[.slice A cs.length c, .slice (some ⟨gk, 0, none⟩) 8192 8192, .slice (some ⟨gv, 0, none⟩) 8192 8192] 79)
    have hK : Blk (((w.alloc (.cells C 3)).alloc (.cells C 3)).alloc (.cells #[.slice A cs.length c, .slice (some ⟨gk, 0, none⟩) 8192 8192, .slice (some ⟨gv, 0, none⟩) 8192 8192] 79)).drew gk 3 C := by first | exact b2.at_eq hgk | exact b3.at_eq hgk
    have hV : Blk (((w.alloc (.cells C 3)).alloc (.cells C 3)).alloc (.cells #[.slice A cs.length c, .slice (some ⟨gk, 0, none⟩) 8192 8192, .slice (some ⟨gv, 0, none⟩) 8192 8192] 79)).drew gv 3 C := by first | exact b2.at_eq hgv | exact b3.at_eq hgv
    clear b0 b1 b2 b3 hg hgk hgv hmk
    generalize (((w.alloc (.cells C 3)).alloc (.cells C 3)).alloc (.cells #[.slice A cs.length c, .slice (some ⟨gk, 0, none⟩) 8192 8192, .slice (some ⟨gv, 0, none⟩) 8192 8192] 79)).drew = W at *
    obtain ⟨N, hN⟩ : ∃ N, N = 8192 := ⟨_, rfl⟩
    have hC := HC.out
    rw [← hN] at hC
    rw [hC] at hK hV
    have HN := Lib.hid hN
    clear HC hC hN
    go_loopw [4] (fun i wr => ∃ k : Nat, i = .int .i64 k ∧ k ≤ 8192 ∧ Blk wr g 79 #[.slice A cs.length c, .slice (some ⟨gk, 0, none⟩) 8192 8192, .slice (some ⟨gv, 0, none⟩) 8192 8192] ∧ Blk wr gk 3 (ints (List.replicate k (-1) ++ List.replicate (N - k) 0)).toArray ∧ Blk wr gv 3 (ints (List.replicate N 0)).toArray ∧ Below w.heap.size w wr) (fun i _ => 8192 - (intOf i).toNat)
    case atStart => exact ⟨0, rfl, by omega, hG, by rw [rep_none]; exact hK, hV, hB⟩
    case round =>
      clear hB hG hK hV
      obtain ⟨k, rfl, hk, hG, hK, hV, hB⟩ := hrel
      have q1 : wr.cell? ⟨g, 1, none⟩ = some (.slice (some ⟨gk, 0, none⟩) 8192 8192) := hG.cell 1
      by_cases hlt : k < 8192
      · obtain ⟨x, hx⟩ : ∃ x, wr.cell? ⟨gk, k, none⟩ = some (.int .i64 x) := ⟨_, (hK.cell k).trans (arr_gi _ k (by rw [List.length_append, List.length_replicate, List.length_replicate, HN.out]; omega))⟩
        have hf := hK.frozen k
        have hK2 := hK.set k (.int .i64 (-1))
        rw [arr_set, rep_set N k (-1) 0 (by rw [HN.out]; exact hlt)] at hK2
        have HK2 := Lib.hid hK2
        have HG2 := Lib.hid (hG.far (p := ⟨gk, k, none⟩) n1 (.int .i64 (-1))); have HV2 := Lib.hid (hV.far (p := ⟨gk, k, none⟩) (Ne.symm n3) (.int .i64 (-1)))
        have HB2 := Lib.hid (hB.setCell (p := ⟨gk, k, none⟩) l2 (.int .i64 (-1)))
        clear hK2 hK hG hV hB
        go_wp2
        go_roundw
        case rel => exact ⟨k + 1, by go_num, by omega, HG2.out, HK2.out, HV2.out, HB2.out⟩
        case measure => simp [intOf]; omega
      · obtain rfl : k = 8192 := by omega
        have e8 := HN.out
        rw [← e8, rep_full] at hK
        rw [e8] at hK hV
        clear e8
        have hK3 := hK
        have HK3 := Lib.hid hK3; have HG := Lib.hid hG
        clear hK hK3 hG
        go_wp2
        go_ret
        exact ⟨g, gk, gv, rfl, l1, l2, l3, ⟨HG.out, HK3.out, hV, BkOk.new cs, n1, n2, n3⟩, hB⟩
  · go_wp2
    obtain ⟨g, hg⟩ : ∃ g, g = w.heap.size + 1 + 1 := ⟨_, rfl⟩
    obtain ⟨gk, hgk⟩ : ∃ gk, gk = w.heap.size + 1 := ⟨_, rfl⟩
    obtain ⟨gv, hgv⟩ : ∃ gv, gv = w.heap.size := ⟨_, rfl⟩
    rw [← hg, ← hgk, ← hgv]
    have n1 : g ≠ gk := by omega
    have n2 : g ≠ gv := by omega
    have n3 : gk ≠ gv := by omega
    have l1 : w.heap.size ≤ g := by omega
    have l2 : w.heap.size ≤ gk := by omega
    have l3 : w.heap.size ≤ gv := by omega
    have hB : Below w.heap.size w (((w.alloc (.cells C 3)).alloc (.cells C 3)).alloc (.cells #[.slice A cs.length c, .slice (some ⟨gk, 0, none⟩) 8192 8192, .slice (some ⟨gv, 0, none⟩) 8192 8192] 79)).drew := Below.drew (((bel1 w _).alloc (by simp) _).alloc (by simp; omega) _)
    have hG : Blk (((w.alloc (.cells C 3)).alloc (.cells C 3)).alloc (.cells #[.slice A cs.length c, .slice (some ⟨gk, 0, none⟩) 8192 8192, .slice (some ⟨gv, 0, none⟩) 8192 8192] 79)).drew g 79 #[.slice A cs.length c, .slice (some ⟨gk, 0, none⟩) 8192 8192, .slice (some ⟨gv, 0, none⟩) 8192 8192] := Blk.below (B := g + 1) (Blk.new_at ((w.alloc (.cells C 3)).alloc (.cells C 3)) 79 _ (by rw [hg]; simp)) ⟨rfl, rfl, rfl, Nat.le_refl _, fun _ _ => rfl⟩ (by omega)
    have b0 : Blk (w.alloc (.cells C 3)) w.heap.size 3 C := Blk.new _ _ _
    have b1 : Blk ((w.alloc (.cells C 3)).alloc (.cells C 3)) (w.heap.size + 1) 3 C := Blk.new_at _ _ _ (by simp)
    have b2 := (b0.alloc (.cells C 3)).alloc (.cells #[.slice A cs.length c, .slice (some ⟨gk, 0, none⟩) 8192 8192, .slice (some ⟨gv, 0, none⟩) 8192 8192] 79)
    have b3 := b1.alloc (.cells #[.slice A cs.length c, .slice (some ⟨gk, 0, none⟩) 8192 8192, .slice (some ⟨gv, 0, none⟩) 8192 8192] 79)
    have hK : Blk (((w.alloc (.cells C 3)).alloc (.cells C 3)).alloc (.cells #[.slice A cs.length c, .slice (some ⟨gk, 0, none⟩) 8192 8192, .slice (some ⟨gv, 0, none⟩) 8192 8192] 79)).drew gk 3 C := by first | exact b2.at_eq hgk | exact b3.at_eq hgk
    have hV : Blk (((w.alloc (.cells C 3)).alloc (.cells C 3)).alloc (.cells #[.slice A cs.length c, .slice (some ⟨gk, 0, none⟩) 8192 8192, .slice (some ⟨gv, 0, none⟩) 8192 8192] 79)).drew gv 3 C := by first | exact b2.at_eq hgv | exact b3.at_eq hgv
    clear b0 b1 b2 b3 hg hgk hgv hmk
    generalize (((w.alloc (.cells C 3)).alloc (.cells C 3)).alloc (.cells #[.slice A cs.length c, .slice (some ⟨gk, 0, none⟩) 8192 8192, .slice (some ⟨gv, 0, none⟩) 8192 8192] 79)).drew = W at *
    obtain ⟨N, hN⟩ : ∃ N, N = 8192 := ⟨_, rfl⟩
    have hC := HC.out
    rw [← hN] at hC
    rw [hC] at hK hV
    have HN := Lib.hid hN
    clear HC hC hN
    go_loopw [4] (fun i wr => ∃ k : Nat, i = .int .i64 k ∧ k ≤ 8192 ∧ Blk wr g 79 #[.slice A cs.length c, .slice (some ⟨gk, 0, none⟩) 8192 8192, .slice (some ⟨gv, 0, none⟩) 8192 8192] ∧ Blk wr gk 3 (ints (List.replicate k (-1) ++ List.replicate (N - k) 0)).toArray ∧ Blk wr gv 3 (ints (List.replicate N 0)).toArray ∧ Below w.heap.size w wr) (fun i _ => 8192 - (intOf i).toNat)
    case atStart => exact ⟨0, rfl, by omega, hG, by rw [rep_none]; exact hK, hV, hB⟩
    case round =>
      clear hB hG hK hV
      obtain ⟨k, rfl, hk, hG, hK, hV, hB⟩ := hrel
      have q1 : wr.cell? ⟨g, 1, none⟩ = some (.slice (some ⟨gk, 0, none⟩) 8192 8192) := hG.cell 1
      by_cases hlt : k < 8192
      · obtain ⟨x, hx⟩ : ∃ x, wr.cell? ⟨gk, k, none⟩ = some (.int .i64 x) := ⟨_, (hK.cell k).trans (arr_gi _ k (by rw [List.length_append, List.length_replicate, List.length_replicate, HN.out]; omega))⟩
        have hf := hK.frozen k
        have hK2 := hK.set k (.int .i64 (-1))
        rw [arr_set, rep_set N k (-1) 0 (by rw [HN.out]; exact hlt)] at hK2
        have HK2 := Lib.hid hK2
        have HG2 := Lib.hid (hG.far (p := ⟨gk, k, none⟩) n1 (.int .i64 (-1))); have HV2 := Lib.hid (hV.far (p := ⟨gk, k, none⟩) (Ne.symm n3) (.int .i64 (-1)))
        have HB2 := Lib.hid (hB.setCell (p := ⟨gk, k, none⟩) l2 (.int .i64 (-1)))
        clear hK2 hK hG hV hB
        go_wp2
        go_roundw
        case rel => exact ⟨k + 1, by go_num, by omega, HG2.out, HK2.out, HV2.out, HB2.out⟩
        case measure => simp [intOf]; omega
      · obtain rfl : k = 8192 := by omega
        have e8 := HN.out
        rw [← e8, rep_full] at hK
        rw [e8] at hK hV
        clear e8
        have hK3 := hK
        have HK3 := Lib.hid hK3; have HG := Lib.hid hG
        clear hK hK3 hG
        go_wp2
        go_ret
        exact ⟨g, gk, gv, rfl, l1, l2, l3, ⟨HG.out, HK3.out, hV, BkOk.new cs, n1, n2, n3⟩, hB⟩
end Go.Proofs.Ytdckgplmkigjcaa
