/- The options of a star sorted: the program's distinct, by contract. Conditions: none. -/
import Derived.Test.YtdjchjmmpjofcaaDoorPl0
import Derived.Test.YtdjchjmmpjofcaaDoorSrt
namespace Go.Proofs.YtdjchjmmpjofcaaDoor
open Go.RowKit
set_option linter.unusedVariables false

theorem rng_pair (k : Nat) : (rng k).Pairwise (· < ·) := by
  unfold rng
  rw [List.pairwise_map]
  exact List.pairwise_lt_range.imp fun h => by omega
theorem srt_rng (k : Nat) : srt (rng k) = rng k := by
  unfold srt
  exact List.mergeSort_of_pairwise ((rng_pair k).imp fun h => by simp; omega)
theorem compact_rng (k : Nat) (hk : k ≤ 16) : Lib.compact (rng k) = rng k := by
  have : ∀ k, k < 17 → Lib.compact (rng k) = rng k := by decide
  exact this k (by omega)

set_option maxHeartbeats 800000 in
theorem distinct_any (b o c k : Nat) (w : World) (hk : k ≤ 16) (hc : ∀ i, i < k → w.cell? ⟨b, o + i, none⟩ = some (.int .i64 (i : Int))) :
    Calls Tryd.prog 32 #[.slice (some ⟨b, o, none⟩) k c] w fun e w' => ∃ g cap, e = .returned (.slice (some ⟨g, 0, none⟩) k cap) ∧ Own w' w.heap.size 3 (.slice (some ⟨g, 0, none⟩) k cap) (ints (rng k)) ∧ Below w.heap.size w w' := by
  have hl := rng_len k
  have HC := clone_any b o c (rng k) w (by omega) (fun i hi => by rw [hl] at hi; rw [gi_rng k i hi]; exact hc i hi)
  have HS := Lib.hid fun g cap W (h : Own W w.heap.size 3 (.slice (some ⟨g, 0, none⟩) (rng k).length cap) (ints (rng k))) => sort_any g cap w.heap.size (rng k) W (by omega) h
  have HK := Lib.hid fun g cap W (h : Own W w.heap.size 3 (.slice (some ⟨g, 0, none⟩) (rng k).length cap) (ints (rng k))) => compact_any g cap w.heap.size (rng k) W (by omega) h
  simp only [srt_rng, compact_rng k hk] at HS HK
  rw [hl] at HC HS HK
  have HCC := Lib.hid HC
  clear HC hl hc
  go_enter Tryd.func32, Tryd.ntmps32
  go_wp2_with (first | (go_at_call 40; (with_reducible refine HCC.out.mono ?_); rintro e w1 ⟨g, cap, rfl, ho1, hb1⟩) | (go_at_call 38; (with_reducible refine (HS.out g cap _ ho1).mono ?_); rintro e w2 ⟨rfl, ho2, hb2⟩) | (go_at_call 41; (with_reducible refine (HK.out g cap _ ho2).mono ?_); rintro e w3 ⟨rfl, ho3, hb3⟩))
  go_ret
  exact ⟨g, cap, rfl, ho3, hb1.trans (hb2.trans hb3)⟩
end Go.Proofs.YtdjchjmmpjofcaaDoor
