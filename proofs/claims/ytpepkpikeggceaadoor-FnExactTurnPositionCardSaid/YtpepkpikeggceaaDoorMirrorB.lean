/- MirrorBoard of the program and of the reference, by contracts. Conditions: none. -/
import Derived.Test.YtpepkpikeggceaaDoorCells2
import Derived.Test.YtpepkpikeggceaaDoorMarkB
import Derived.Test.YtpepkpikeggceaaDoorTurn
namespace Go.Proofs.YtpepkpikeggceaaDoor
open Go.RowKit
set_option linter.unusedVariables false

def revS (r : ByteArray) : ByteArray := str r.data.toList.reverse
def resMirrorBoard (ss : List ByteArray) : List ByteArray := if boardB ss = true then ss.map revS else []
theorem resMirrorBoard_le (ss : List ByteArray) : (resMirrorBoard ss).length ≤ 8 := by
  unfold resMirrorBoard
  split
  · rename_i h; rw [List.length_map]; exact (boardB_of h).1.2
  · simp
theorem own_none (w : World) (E : TypeId) (base : Nat) : Own w base E (.slice none 0 0) [] := ⟨rfl, .inl ⟨rfl, rfl⟩⟩
theorem map_step (ss : List ByteArray) (f : ByteArray → ByteArray) (k : Nat) (h : k < ss.length) : (ss.take (k + 1)).map f = (ss.take k).map f ++ [f (gs ss k)] := by
  rw [List.take_succ_eq_append_getElem h, List.map_append, gs_lt h]; rfl

/-- A row of bools is put in the place of another. -/
theorem RwB.put {w : World} {lo g i n c ci : Nat} {bss : List (List Bool)} {Ai : Option Addr} {bs : List Bool} (h : RwB w lo (.slice (some ⟨g, 0, none⟩) n c) bss) (hi : i < bss.length)
    (hr : Rd w w.heap.size Ai ci (bools bs)) (hne : ∀ a, Ai = some a → a.block < w.heap.size ∧ a.block ≠ g) : RwB (w.setCell ⟨g, i, none⟩ (.slice Ai bs.length ci)) lo (.slice (some ⟨g, 0, none⟩) n c) (bss.set i bs) := by
  obtain ⟨cs, h1, h2, h3⟩ := h
  have hkeep : ∀ (Aj : Option Addr) (cj : Nat) (xs : List Value), Rd w w.heap.size Aj cj xs → (∀ a, Aj = some a → a.block ≠ g) → Rd (w.setCell ⟨g, i, none⟩ (.slice Ai bs.length ci)) (w.setCell ⟨g, i, none⟩ (.slice Ai bs.length ci)).heap.size Aj cj xs := by
    intro Aj cj xs hx hn
    refine ⟨hx.1, hx.2.1, hx.2.2.1, fun j hj => ?_⟩
    obtain ⟨b, o, hA, hbl, hc⟩ := hx.2.2.2 j hj
    refine ⟨b, o, hA, by simpa using hbl, fun t u ht => ?_⟩
    have hbg : b ≠ g := hn _ hA
    exact (World.cell?_of_block (w := w) (a := ⟨b, o + t, none⟩) (Below.heap_setCell w _ _ _ hbg)).trans (hc t u ht)
  have hn1 := h1.len
  have h1' : w.ownsRow lo 68 1 (.slice (some ⟨g, 0, none⟩) n c) n cs := by
    have := h1
    unfold Own at this
    rw [← hn1] at this
    exact this
  have hs := (h1'.stored i (.slice Ai bs.length ci)).1
  refine ⟨cs.set i (.slice Ai bs.length ci), ?_, by rw [List.length_set, List.length_set, h2], fun j hj => ?_⟩
  · unfold Own
    rw [List.length_set, ← hn1]
    exact hs
  · rw [List.length_set] at hj
    have hgz : ∀ a, Ai = some a → a.block < (w.setCell ⟨g, i, none⟩ (.slice Ai bs.length ci)).heap.size ∧ (Value.slice (some ⟨g, 0, none⟩) n c).ownBlock ≠ some a.block := fun a ha => ⟨by simpa using (hne a ha).1, fun e => by injection e with e; exact (hne a ha).2 e.symm⟩
    by_cases hij : i = j
    · subst hij
      have e : gb (bss.set i bs) i = bs := by simp [gb, hi]
      rw [e]
      exact ⟨Ai, ci, by rw [List.getElem?_set_self (by omega)], hkeep _ _ _ hr fun a ha => (hne a ha).2, hgz⟩
    · have e : gb (bss.set i bs) j = gb bss j := by simp [gb, List.getElem?_set_ne hij]
      rw [e]
      obtain ⟨Aj, cj, k1, k2, k3⟩ := h3 j hj
      exact ⟨Aj, cj, by rw [List.getElem?_set_ne hij]; exact k1, hkeep _ _ _ k2 fun a ha he => (k3 a ha).2 (by rw [he]; rfl), fun a ha => ⟨by simpa using (k3 a ha).1, (k3 a ha).2⟩⟩
/-- The first k rows reversed. -/
def revB (bss : List (List Bool)) (k : Nat) : List (List Bool) := (bss.take k).map List.reverse ++ bss.drop k
theorem revB_len (bss : List (List Bool)) (k : Nat) : (revB bss k).length = bss.length := by simp [revB]; omega
theorem gb_revB (bss : List (List Bool)) (k : Nat) (h : k < bss.length) : gb (revB bss k) k = gb bss k := by
  have hl : ((bss.take k).map List.reverse).length = k := by rw [List.length_map, List.length_take]; omega
  unfold gb revB
  rw [List.getD_eq_getElem?_getD, List.getElem?_append_right (by omega), hl, Nat.sub_self, List.getElem?_drop, Nat.add_zero, ← List.getD_eq_getElem?_getD]
theorem revB_step (bss : List (List Bool)) (k : Nat) (h : k < bss.length) : (revB bss k).set k (gb bss k).reverse = revB bss (k + 1) := by
  have hl : ((bss.take k).map List.reverse).length = k := by rw [List.length_map, List.length_take]; omega
  unfold revB
  rw [List.set_append_right _ _ (by omega), hl, Nat.sub_self, List.drop_eq_getElem_cons h, List.set_cons_zero, List.take_succ_eq_append_getElem h, List.map_append, gb_lt h]
  simp
theorem btext_brow {r : ByteArray} (h : allIn [46, 35] r = true) : btext (brow r) = r := by
  refine (str_of r ?_).symm
  unfold brow
  rw [List.map_map]
  unfold allIn at h
  rw [List.all_eq_true] at h
  conv => lhs; rw [← List.map_id r.data.toList]
  refine List.map_congr_left fun b hb => ?_
  have := h b hb
  simp at this
  rcases this with rfl | rfl <;> rfl
theorem btext_rev {r : ByteArray} (h : allIn [46, 35] r = true) : btext (brow r).reverse = revS r := by
  have e : (btext (brow r).reverse).data.toList = (btext (brow r)).data.toList.reverse := by
    unfold btext
    rw [str_data, str_data, List.map_reverse]
  rw [btext_brow h] at e
  exact str_of _ e

end Go.Proofs.YtpepkpikeggceaaDoor
