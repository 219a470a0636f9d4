/- l17Values by its contract. Conditions: none. -/
import Derived.Test.YtbledcogbkeneaaMex
import Derived.Test.YtbledcogbkeneaaVals
namespace Go.Proofs.Ytbledcogbkeneaa
open Go.RowKit
set_option linter.unusedVariables false

theorem infoBool : (Try.prog.info? 4).map (fun i => (i.zero, i.size, i.bytes)) = some (some (.bool false), 1, 1) := by kernel_rfl
theorem make_bools {w : World} {ops : Array Oper} {rest : List Oper} {o : Oper} {a : Act} {Q : Exit → Act → World → Prop} (hg : o.guard = none) (l c : Operand)
    (hop : o.op = Op.makeSlice 39 l c) (n : Nat) (L : Int) (hL : L = (n : Int)) (hl : a.eval l = .int .i64 L) (hc : a.eval c = .int .i64 L) (hb : n ≤ 1000000000000)
    (hK : ∀ w', SeenIs w' w.heap.size n 4 (fun _ => False) → Below w.heap.size w w' → w.heap.size < w'.heap.size →
      wpList Try.prog ops Q rest (a.put o.dst (.slice (some ⟨w.heap.size, 0, none⟩) n n)) w') :
    wpList Try.prog ops Q (o :: rest) a w := by
  obtain ⟨i0, hi, hz0, hz1, hz2⟩ := info_parts infoBool
  refine wpList_make_full w hg l c 39 hop w.heap.size 4 i0 (.bool false) 1 Try.underlying39 hi hz0 hz1 .i64 .i64 L L n hl hc hL hL (by rw [hz2]; omega) (by unfold maxLen; omega) (Nat.le_refl _) ?_
  intro w' ho hgr
  have e : (madeCells (Value.bool false).cells (n * 1)).toList = List.replicate n (.bool false) := by
    simp [madeCells, Value.cells, Nat.mod_one, List.map_const']
  rw [e] at ho
  refine hK w' ?_ (below_of_grown hgr) ((ho.lt _ rfl).2)
  rcases ho.2 with ⟨hv, h0⟩ | ⟨g, cap, cur, hv, hb', hh, hnc, hcm, hcs, ht⟩
  · cases hv
  · injection hv with hA hn hc'
    injection hA with hA
    injection hA with hA
    subst hA hc'
    refine ⟨List.replicate n false, by simp, ?_, fun x hx => by simp [List.getD, hx]⟩
    have : cur = (List.map Value.bool (List.replicate n false)).toArray := by
      rw [List.map_replicate]
      apply Array.ext'
      rw [← ht, Nat.mul_one, List.take_of_length_le (by simp; omega)]
    rw [← this]
    exact hh
theorem SeenIs.below {w w' : World} {g n B : Nat} {t : TypeId} {Q : Nat → Prop} (h : SeenIs w g n t Q) (hb : Below B w w') (hg : g < B) : SeenIs w' g n t Q := by
  obtain ⟨bs, h1, h2, h3⟩ := h
  exact ⟨bs, h1, h2.below hb hg, h3⟩

def small15 (v : List Nat) : Prop := ∀ i, gn v i < 32768
theorem small15_nil : small15 [] := fun i => by simp [gn]
theorem small15_snoc {v : List Nat} {m : Nat} (h : small15 v) (hm : m < 32768) : small15 (v ++ [m]) := by
  intro i
  rcases Nat.lt_trichotomy i v.length with hl | hl | hl
  · rw [gn_append_lt v _ hl]; exact h i
  · subst hl; rw [gn_append_len]; exact hm
  · rw [gn, List.getD_eq_getElem?_getD, List.getElem?_eq_none (by simp; omega)]; simp

end Go.Proofs.Ytbledcogbkeneaa
