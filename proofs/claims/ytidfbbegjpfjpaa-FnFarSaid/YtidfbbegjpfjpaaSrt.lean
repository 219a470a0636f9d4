/- slices.Clone, slices.Sort, slices.Compact at rows of integers: contracts. Conditions: none. -/
import Derived.Test.YtidfbbegjpfjpaaMem
import Derived.Test.YtidfbbegjpfjpaaShelfQ
import Derived.Lib.OwnBridge
import Derived.Sort.OwnSortedInts
namespace Go.Proofs.Ytidfbbegjpfjpaa
open Go.RowKit
set_option linter.unusedVariables false

theorem clone_any (b o c : Nat) (xs : List Int) (w : World) (hn : xs.length ≤ 1000000) (hc : ∀ i, i < xs.length → w.cell? ⟨b, o + i, none⟩ = some (.int .i64 (gi xs i))) :
    Calls Try.prog 39 #[.slice (some ⟨b, o, none⟩) xs.length c] w fun e w' => ∃ g cap, e = .returned (.slice (some ⟨g, 0, none⟩) xs.length cap) ∧ Own w' w.heap.size 3 (.slice (some ⟨g, 0, none⟩) xs.length cap) (ints xs) ∧ Below w.heap.size w w' := by
  refine (Any.slices_Clone_int Try.laysNm215 b o xs.length c xs w (Nat.le_refl _) (by omega) (fun j hj => hc j hj)).mono ?_
  rintro e w' ⟨v, he, ho, hv, hb⟩
  rw [List.take_length] at ho
  obtain ⟨g, cap, hvv, _⟩ := Lib.holds_of_ownsRow (enc := Value.int .i64) ho hv
  subst hvv
  refine ⟨g, cap, he, ?_, hb⟩
  unfold Own
  rw [ints_len]
  exact ho

/-- The numbers in order. -/
def srt (xs : List Int) : List Int := xs.mergeSort fun x y => decide (x ≤ y)
theorem srt_len (xs : List Int) : (srt xs).length = xs.length := List.length_mergeSort _

theorem sort_any (g cap base : Nat) (xs : List Int) (w : World) (hn : xs.length ≤ 1000000) (ho : Own w base 3 (.slice (some ⟨g, 0, none⟩) xs.length cap) (ints xs)) :
    Calls Try.prog 40 #[.slice (some ⟨g, 0, none⟩) xs.length cap] w fun e w' => e = .returned (.tuple #[]) ∧ Own w' base 3 (.slice (some ⟨g, 0, none⟩) xs.length cap) (ints (srt xs)) ∧ Below base w w' := by
  have ho' : w.ownsRow base 3 1 (.slice (some ⟨g, 0, none⟩) xs.length cap) xs.length (xs.map (Value.int .i64)) := by
    have := ho; unfold Own at this; rw [ints_len] at this; exact this
  obtain ⟨g', cap', e0, hb, hlt, h1, h2, _, hH⟩ := Lib.holds_of_ownsRow ho' (by simp)
  cases e0
  refine (Any.slices_Sort_int Try.lays189 g 0 cap xs w hH hlt (by omega)).mono ?_
  rintro e w' ⟨he, n, os, hw⟩
  have hbase : base ≤ w.heap.size := by omega
  have hw2 : w' = Sort.grow (Sort.putRow (Value.int .i64) (Sort.ahead w n) g 0 (srt xs).toArray) os := hw
  clear hw
  subst hw2
  refine ⟨he, ?_, ?_⟩
  · rcases ho'.2 with ⟨hv, _⟩ | ⟨g2, cap2, cur, hv, hb2, hg2, hn2, hm2, hs2, ht2⟩
    · cases hv
    · cases hv
      have := ownsRow_sortedI (os := os) (n := n) (ss := xs) (ts := srt xs) (srt_len xs) hb hg2 hn2 hm2 hs2
      unfold Own
      rw [ints_len, srt_len]
      exact this
  · have hp := Lib.below_putRow (enc := Value.int .i64) (q := n) (d := (srt xs).toArray) (Below.refl base w) hb
    refine hp.trans ⟨rfl, rfl, rfl, by simp [Sort.grow], fun k hk => ?_⟩
    show (_ ++ os)[k]? = _
    rw [Array.getElem?_append_left (by have := hp.size; omega)]

theorem compact_any (g cap base : Nat) (xs : List Int) (w : World) (hn : xs.length ≤ 1000000) (ho : Own w base 3 (.slice (some ⟨g, 0, none⟩) xs.length cap) (ints xs)) :
    Calls Try.prog 41 #[.slice (some ⟨g, 0, none⟩) xs.length cap] w fun e w' => e = .returned (.slice (some ⟨g, 0, none⟩) (Lib.compact xs).length cap) ∧ Own w' base 3 (.slice (some ⟨g, 0, none⟩) (Lib.compact xs).length cap) (ints (Lib.compact xs)) ∧ Below base w w' := by
  have ho' : w.ownsRow base 3 1 (.slice (some ⟨g, 0, none⟩) xs.length cap) xs.length (xs.map (Value.int .i64)) := by
    have := ho; unfold Own at this; rw [ints_len] at this; exact this
  obtain ⟨g', cap', e0, hb, hlt, h1, h2, _, hH⟩ := Lib.holds_of_ownsRow ho' (by simp)
  cases e0
  refine (Any.slices_Compact_int Try.laysNm220 g 0 cap xs w hH (by omega) h1).mono ?_
  rintro e w' ⟨he, q, hw⟩
  subst hw
  have hle := Lib.compact_length_le xs
  refine ⟨he, ?_, Lib.below_putRow (Below.refl base w) hb⟩
  have := Lib.ownsRow_putRow (q := q) (k := (Lib.compact xs).length) (ys := Lib.compact xs ++ List.replicate (xs.length - (Lib.compact xs).length) 0) ho' (by simp; omega) hle
  rw [List.take_left] at this
  unfold Own
  rw [ints_len]
  exact this
end Go.Proofs.Ytidfbbegjpfjpaa
