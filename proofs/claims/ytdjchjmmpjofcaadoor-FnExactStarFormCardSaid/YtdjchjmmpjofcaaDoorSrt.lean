/- slices.Clone, slices.Compact at rows of integers: contracts. Conditions: none. -/
import Derived.Test.YtdjchjmmpjofcaaDoorSort
import Derived.Lib.OwnBridge
import Derived.Sort.OwnSortedInts
namespace Go.Proofs.YtdjchjmmpjofcaaDoor
open Go.RowKit
set_option linter.unusedVariables false

theorem clone_any (b o c : Nat) (xs : List Int) (w : World) (hn : xs.length ≤ 1000000) (hc : ∀ i, i < xs.length → w.cell? ⟨b, o + i, none⟩ = some (.int .i64 (gi xs i))) :
    Calls Tryd.prog 40 #[.slice (some ⟨b, o, none⟩) xs.length c] w fun e w' => ∃ g cap, e = .returned (.slice (some ⟨g, 0, none⟩) xs.length cap) ∧ Own w' w.heap.size 3 (.slice (some ⟨g, 0, none⟩) xs.length cap) (ints xs) ∧ Below w.heap.size w w' := by
  refine (Any.slices_Clone_int Tryd.laysNm215 b o xs.length c xs w (Nat.le_refl _) (by omega) (fun j hj => hc j hj)).mono ?_
  rintro e w' ⟨v, he, ho, hv, hb⟩
  rw [List.take_length] at ho
  obtain ⟨g, cap, hvv, _⟩ := Lib.holds_of_ownsRow (enc := Value.int .i64) ho hv
  subst hvv
  refine ⟨g, cap, he, ?_, hb⟩
  unfold Own
  rw [ints_len]
  exact ho

theorem compact_any (g cap base : Nat) (xs : List Int) (w : World) (hn : xs.length ≤ 1000000) (ho : Own w base 3 (.slice (some ⟨g, 0, none⟩) xs.length cap) (ints xs)) :
    Calls Tryd.prog 41 #[.slice (some ⟨g, 0, none⟩) xs.length cap] w fun e w' => e = .returned (.slice (some ⟨g, 0, none⟩) (Lib.compact xs).length cap) ∧ Own w' base 3 (.slice (some ⟨g, 0, none⟩) (Lib.compact xs).length cap) (ints (Lib.compact xs)) ∧ Below base w w' := by
  have ho' : w.ownsRow base 3 1 (.slice (some ⟨g, 0, none⟩) xs.length cap) xs.length (xs.map (Value.int .i64)) := by
    have := ho; unfold Own at this; rw [ints_len] at this; exact this
  obtain ⟨g', cap', e0, hb, hlt, h1, h2, _, hH⟩ := Lib.holds_of_ownsRow ho' (by simp)
  cases e0
  refine (Any.slices_Compact_int Tryd.laysNm220 g 0 cap xs w hH (by omega) h1).mono ?_
  rintro e w' ⟨he, q, hw⟩
  subst hw
  have hle := Lib.compact_length_le xs
  refine ⟨he, ?_, Lib.below_putRow (Below.refl base w) hb⟩
  have := Lib.ownsRow_putRow (q := q) (k := (Lib.compact xs).length) (ys := Lib.compact xs ++ List.replicate (xs.length - (Lib.compact xs).length) 0) ho' (by simp; omega) hle
  rw [List.take_left] at this
  unfold Own
  rw [ints_len]
  exact this
end Go.Proofs.YtdjchjmmpjofcaaDoor
