/- slices.Sort at rows of integers: a contract. Conditions: none. -/
import Derived.Test.YtdjchjmmpjofcaaDoorSrt0
import Derived.Test.YtdjchjmmpjofcaaDoorShelfQ
import Derived.Lib.OwnBridge
import Derived.Sort.OwnSortedInts
namespace Go.Proofs.YtdjchjmmpjofcaaDoor
open Go.RowKit
set_option linter.unusedVariables false

theorem sort_any (g cap base : Nat) (xs : List Int) (w : World) (hn : xs.length ≤ 1000000) (ho : Own w base 3 (.slice (some ⟨g, 0, none⟩) xs.length cap) (ints xs)) :
    Calls Tryd.prog 38 #[.slice (some ⟨g, 0, none⟩) xs.length cap] w fun e w' => e = .returned (.tuple #[]) ∧ Own w' base 3 (.slice (some ⟨g, 0, none⟩) xs.length cap) (ints (srt xs)) ∧ Below base w w' := by
  have ho' : w.ownsRow base 3 1 (.slice (some ⟨g, 0, none⟩) xs.length cap) xs.length (xs.map (Value.int .i64)) := by
    have := ho; unfold Own at this; rw [ints_len] at this; exact this
  obtain ⟨g', cap', e0, hb, hlt, h1, h2, _, hH⟩ := Lib.holds_of_ownsRow ho' (by simp)
  cases e0
  refine (Any.slices_Sort_int Tryd.lays189 g 0 cap xs w hH hlt (by omega)).mono ?_
  rintro e w' ⟨he, n, os, hw⟩
  have hbase : base ≤ w.heap.size := by omega
  have hw2 : w' = Sort.grow (Sort.putRow (Value.int .i64) (Sort.ahead w n) g 0 (srt xs).toArray) os := hw
  clear hw
  subst hw2
  refine ⟨he, ?_, ?_⟩
  · rcases ho'.2 with ⟨hv, _⟩ | ⟨g2, cap2, cur, hv, hb2, hg2, hn2, hm2, hs2, ht2⟩
    · cases hv
    · cases hv
      have := ownsRow_sortedI (os := os) (n := n) (ss := xs) (ts := srt xs) (srt_len xs) hb hg2 hn2 hm2 hs2
      unfold Own
      rw [ints_len, srt_len]
      exact this
  · have hp := Lib.below_putRow (enc := Value.int .i64) (q := n) (d := (srt xs).toArray) (Below.refl base w) hb
    refine hp.trans ⟨rfl, rfl, rfl, by simp [Sort.grow], fun k hk => ?_⟩
    show (_ ++ os)[k]? = _
    rw [Array.getElem?_append_left (by have := hp.size; omega)]
end Go.Proofs.YtdjchjmmpjofcaaDoor
