/- The laws' own helpers on lists of lists of integers: eqIntSS, markIntSS, heldIntSS, by contracts. Conditions: none. -/
import Derived.Test.YtdjchjmmpjofcaaDoorFresh
import Derived.Test.YtdjchjmmpjofcaaDoorSl
import Derived.Test.YtdjchjmmpjofcaaDoorRow1
namespace Go.Proofs.YtdjchjmmpjofcaaDoor
open Go.RowKit
set_option linter.unusedVariables false

/-- How many numbers the first i lists hold. -/
def off (xss : List (List Int)) : Nat → Nat
  | 0 => 0
  | i + 1 => off xss i + (gl xss i).length
theorem off_le (xss : List (List Int)) {i j : Nat} (h : i ≤ j) : off xss i ≤ off xss j := by
  induction j with
  | zero => rw [show i = 0 by omega]; exact Nat.le_refl _
  | succ j ih =>
    by_cases hij : i = j + 1
    · rw [hij]; exact Nat.le_refl _
    · have := ih (by omega)
      rw [off]; omega
/-- The first i lists hold the numbers from k on. -/
def mk (k : Int) (xss : List (List Int)) : Nat → List (List Int)
  | 0 => xss
  | i + 1 => (mk k xss i).set i (numRow (k + off xss i) (gl xss i).length)
theorem mk_len (k : Int) (xss : List (List Int)) (i : Nat) : (mk k xss i).length = xss.length := by
  induction i with
  | zero => rfl
  | succ i ih => rw [mk, List.length_set, ih]
theorem gl_mk (k : Int) (xss : List (List Int)) (i j : Nat) (hj : j < xss.length) : gl (mk k xss i) j = if j < i then numRow (k + off xss j) (gl xss j).length else gl xss j := by
  induction i with
  | zero => simp [mk]
  | succ i ih =>
    rw [mk]
    by_cases hij : i = j
    · subst hij
      have : gl ((mk k xss i).set i (numRow (k + off xss i) (gl xss i).length)) i = numRow (k + off xss i) (gl xss i).length := by
        simp [gl, mk_len, hj]
      rw [this, if_pos (by omega)]
    · have : gl ((mk k xss i).set i (numRow (k + off xss i) (gl xss i).length)) j = gl (mk k xss i) j := by
        simp [gl, List.getElem?_set_ne hij]
      rw [this, ih]
      by_cases h1 : j < i
      · rw [if_pos h1, if_pos (by omega)]
      · rw [if_neg h1, if_neg (by omega)]
theorem map_set_ints (xss : List (List Int)) (i : Nat) (ys : List Int) : (xss.map ints).set i (ints ys) = (xss.set i ys).map ints := by rw [List.map_set]
theorem FrR.lenI {w : World} {lo : Nat} {E e : TypeId} {A : Option Addr} {n c : Nat} {xss : List (List Int)} (h : FrR w lo E e (.slice A n c) (xss.map ints)) : n = xss.length := by
  obtain ⟨A', c', hv⟩ := h.form
  injection hv with _ h2 _
  rw [h2, List.length_map]
theorem FrR.rowAt {w : World} {lo : Nat} {E : TypeId} {A : Option Addr} {n c : Nat} {xss : List (List Int)} (h : FrR w lo E 3 (.slice A n c) (xss.map ints)) {i : Nat} (hi : i < xss.length) :
    ∃ b Ai ci, A = some ⟨b, 0, none⟩ ∧ b < w.heap.size ∧ w.cell? ⟨b, i, none⟩ = some (.slice Ai (gl xss i).length ci) ∧ Own w lo 3 (.slice Ai (gl xss i).length ci) (ints (gl xss i)) ∧
      (∀ cs, Own w lo E (.slice A n c) cs → FrC w lo 3 cs (xss.map ints) → cs[i]? = some (.slice Ai (gl xss i).length ci)) ∧
      ∀ g, (Value.slice Ai (gl xss i).length ci).ownBlock = some g → b ≠ g := by
  obtain ⟨cs, h1, h2, h3⟩ := h
  obtain ⟨Ai, ci, k1, k2⟩ := h2.2.1 i (by rw [List.length_map]; exact hi)
  rw [gc_ints, ints_len] at k1 k2
  obtain ⟨b, hA, -, -, hb, hc, -⟩ := h1.at (by rw [h2.1, List.length_map]; omega)
  have hci := hc i _ k1
  refine ⟨b, Ai, ci, hA, hb, hci, k2, fun cs' g1 g2 => ?_, fun g hg he => ?_⟩
  · obtain ⟨Aj, cj, l1, l2⟩ := g2.2.1 i (by rw [List.length_map]; exact hi)
    rw [hA] at g1
    obtain ⟨b', hA', -, -, -, hc', -⟩ := g1.at (by rw [g2.1, List.length_map]; omega)
    injection hA' with hA'
    injection hA' with hA'
    subst hA'
    have := hc' i _ l1
    rw [hci] at this
    rw [l1]; exact this.symm
  · subst he
    exact h3 i _ b k1 hg (by rw [hA]; rfl)

end Go.Proofs.YtdjchjmmpjofcaaDoor
