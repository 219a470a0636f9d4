/- Sorted rows of distinct numbers: plain laws. Conditions: none. -/
import Derived.Test.YtbledcogbkeneaaSrt
namespace Go.Proofs.Ytbledcogbkeneaa
open Go.RowKit
set_option linter.unusedVariables false

/-- Put a number to its place, once. -/
def putI (l : List Int) (x : Int) : List Int := l.takeWhile (fun y => decide (y < x)) ++ (if (l.dropWhile (fun y => decide (y < x))).head? = some x then [] else [x]) ++ l.dropWhile (fun y => decide (y < x))
def Ris (l : List Int) : Prop := l.Pairwise (· < ·)
theorem mem_tw (l : List Int) (x y : Int) : y ∈ l.takeWhile (fun y => decide (y < x)) → y < x := by
  induction l with
  | nil => intro h; simp at h
  | cons a l ih =>
    intro h
    by_cases ha : a < x
    · rw [List.takeWhile_cons_of_pos (by simpa using ha)] at h
      rcases List.mem_cons.1 h with rfl | h
      · exact ha
      · exact ih h
    · rw [List.takeWhile_cons_of_neg (by simpa using ha)] at h
      simp at h
theorem ris_dw (l : List Int) (x : Int) (h : Ris l) : ∀ y ∈ l.dropWhile (fun y => decide (y < x)), x ≤ y := by
  induction l with
  | nil => intro y hy; simp at hy
  | cons a l ih =>
    intro y hy
    obtain ⟨h1, h2⟩ := List.pairwise_cons.1 h
    by_cases ha : a < x
    · rw [List.dropWhile_cons_of_pos (by simpa using ha)] at hy
      exact ih h2 y hy
    · rw [List.dropWhile_cons_of_neg (by simpa using ha)] at hy
      rcases List.mem_cons.1 hy with rfl | hy
      · omega
      · have := h1 y hy; omega
theorem putI_mem (l : List Int) (x y : Int) : y ∈ putI l x ↔ y = x ∨ y ∈ l := by
  unfold putI
  have hsplit : y ∈ l ↔ y ∈ l.takeWhile (fun y => decide (y < x)) ∨ y ∈ l.dropWhile (fun y => decide (y < x)) := by
    rw [← List.mem_append, List.takeWhile_append_dropWhile]
  rw [List.mem_append, List.mem_append, hsplit]
  split
  · rename_i hh
    have hx : x ∈ l.dropWhile (fun y => decide (y < x)) := List.mem_of_mem_head? hh
    constructor
    · rintro ((h | h) | h)
      · exact .inr (.inl h)
      · simp at h
      · exact .inr (.inr h)
    · rintro (rfl | h | h)
      · exact .inr hx
      · exact .inl (.inl h)
      · exact .inr h
  · constructor
    · rintro ((h | h) | h)
      · exact .inr (.inl h)
      · simp at h; exact .inl h
      · exact .inr (.inr h)
    · rintro (rfl | h | h)
      · exact .inl (.inr (by simp))
      · exact .inl (.inl h)
      · exact .inr h
theorem putI_ris (l : List Int) (x : Int) (h : Ris l) : Ris (putI l x) := by
  have hd := ris_dw l x h
  have h0 : Ris (l.takeWhile (fun y => decide (y < x)) ++ l.dropWhile (fun y => decide (y < x))) := by rw [List.takeWhile_append_dropWhile]; exact h
  obtain ⟨h1, h2, h3⟩ := List.pairwise_append.1 h0
  unfold putI Ris
  split
  · rw [List.append_nil]; exact h0
  · rename_i hne
    have hd2 : ∀ y ∈ l.dropWhile (fun y => decide (y < x)), x < y := by
      generalize hL : l.dropWhile (fun y => decide (y < x)) = L at *
      cases L with
      | nil => intro y hy; simp at hy
      | cons a L =>
        have ha := hd a (by simp)
        have hax : a ≠ x := fun e => hne (by rw [e]; rfl)
        intro y hy
        rcases List.mem_cons.1 hy with rfl | hy
        · omega
        · have := (List.pairwise_cons.1 h2).1 y hy; omega
    rw [List.append_assoc]
    refine List.pairwise_append.2 ⟨h1, ?_, ?_⟩
    · exact List.pairwise_cons.2 ⟨fun y hy => hd2 y hy, h2⟩
    · intro a ha b hb
      have := mem_tw l x a ha
      simp at hb
      rcases hb with rfl | hb
      · exact this
      · have := hd2 b hb; omega
theorem ris_ext : ∀ (l m : List Int), Ris l → Ris m → (∀ x, x ∈ l ↔ x ∈ m) → l = m := by
  intro l
  induction l with
  | nil =>
    intro m _ _ h
    cases m with
    | nil => rfl
    | cons b m => have := (h b).2 (by simp); simp at this
  | cons a l ih =>
    intro m hl hm h
    cases m with
    | nil => have := (h a).1 (by simp); simp at this
    | cons b m =>
      obtain ⟨l1, l2⟩ := List.pairwise_cons.1 hl
      obtain ⟨m1, m2⟩ := List.pairwise_cons.1 hm
      have hab : a = b := by
        have ha := (h a).1 (by simp)
        have hb := (h b).2 (by simp)
        rcases List.mem_cons.1 ha with e | ha
        · exact e
        · rcases List.mem_cons.1 hb with e | hb
          · exact e.symm
          · have := m1 a ha; have := l1 b hb; omega
      subst hab
      rw [ih m l2 m2 fun x => ?_]
      constructor
      · intro hx
        rcases List.mem_cons.1 ((h x).1 (List.mem_cons_of_mem _ hx)) with e | hx'
        · subst e; have := l1 x hx; omega
        · exact hx'
      · intro hx
        rcases List.mem_cons.1 ((h x).2 (List.mem_cons_of_mem _ hx)) with e | hx'
        · subst e; have := m1 x hx; omega
        · exact hx'
/-- All numbers put, one behind the other. -/
def putAll (xs : List Int) : List Int := xs.foldl putI []
theorem putAll_snoc (xs : List Int) (x : Int) : putAll (xs ++ [x]) = putI (putAll xs) x := by simp [putAll]
theorem foldl_put (xs : List Int) : ∀ l, Ris l → Ris (xs.foldl putI l) ∧ ∀ y, y ∈ xs.foldl putI l ↔ y ∈ l ∨ y ∈ xs := by
  induction xs with
  | nil => intro l h; exact ⟨h, fun y => by simp⟩
  | cons a xs ih =>
    intro l h
    obtain ⟨i1, i2⟩ := ih (putI l a) (putI_ris l a h)
    refine ⟨i1, fun y => ?_⟩
    rw [List.foldl_cons, i2, putI_mem, List.mem_cons]
    constructor
    · rintro ((h | h) | h)
      · exact .inr (.inl h)
      · exact .inl h
      · exact .inr (.inr h)
    · rintro (h | h | h)
      · exact .inl (.inr h)
      · exact .inl (.inl h)
      · exact .inr h
theorem srt_pair (xs : List Int) : (srt xs).Pairwise (· ≤ ·) := by
  have := List.pairwise_mergeSort (le := fun x y : Int => decide (x ≤ y)) (fun a b c h1 h2 => by simp at *; omega) (fun a b => by simp; omega) xs
  exact this.imp fun h => by simpa using h
theorem compact_form (zs : List Int) : Lib.compact zs = ((List.range zs.length).filter (Lib.keeps zs.toArray)).map (fun i => gi zs i) := by
  unfold Lib.compact Lib.compactUpTo
  refine List.map_congr_left fun i hi => ?_
  have hi' : i < zs.length := by
    rw [List.mem_filter, List.mem_range] at hi
    exact hi.1
  simp [gi, hi']
theorem keeps_gi (zs : List Int) (j : Nat) (hj : j < zs.length) : Lib.keeps zs.toArray j = decide (j = 0 ∨ gi zs j ≠ gi zs (j - 1)) := by
  unfold Lib.keeps
  have h1 : zs.toArray[j]! = gi zs j := by simp [gi, hj]
  have h2 : zs.toArray[j - 1]! = gi zs (j - 1) := by simp [gi, show j - 1 < zs.length by omega]
  rw [h1, h2]
theorem pair_gi {zs : List Int} (h : zs.Pairwise (· ≤ ·)) (i j : Nat) (hij : i ≤ j) (hj : j < zs.length) : gi zs i ≤ gi zs j := by
  rcases Nat.lt_or_ge i j with hlt | hge
  · have := List.pairwise_iff_getElem.1 h i j (by omega) hj hlt
    simpa [gi, hj, show i < zs.length by omega] using this
  · obtain rfl : i = j := by omega
    exact Int.le_refl _
theorem compact_ris (zs : List Int) (h : zs.Pairwise (· ≤ ·)) : Ris (Lib.compact zs) := by
  rw [compact_form]
  unfold Ris
  rw [List.pairwise_map]
  refine (List.Pairwise.filter _ List.pairwise_lt_range).imp_of_mem ?_
  intro i j hi hj hij
  rw [List.mem_filter, List.mem_range] at hi hj
  have hk := hj.2
  rw [keeps_gi zs j hj.1, decide_eq_true_eq] at hk
  have h1 := pair_gi h i (j - 1) (by omega) (by omega)
  have h2 := pair_gi h (j - 1) j (by omega) hj.1
  rcases hk with hk | hk
  · omega
  · omega
theorem compact_mem (zs : List Int) (x : Int) : x ∈ Lib.compact zs ↔ x ∈ zs := by
  rw [compact_form, List.mem_map]
  constructor
  · rintro ⟨i, hi, rfl⟩
    rw [List.mem_filter, List.mem_range] at hi
    have : gi zs i = zs[i] := by simp [gi, hi.1]
    rw [this]
    exact List.getElem_mem _
  · intro hx
    obtain ⟨i, hi, he⟩ := List.getElem_of_mem hx
    have hgi : gi zs i = x := by simp [gi, hi, he]
    clear he
    induction i with
    | zero => exact ⟨0, by rw [List.mem_filter, List.mem_range, keeps_gi zs 0 hi]; exact ⟨hi, by simp⟩, hgi⟩
    | succ i ih =>
      by_cases hc : gi zs (i + 1) = gi zs i
      · exact ih (by omega) (by rw [← hc]; exact hgi)
      · exact ⟨i + 1, by rw [List.mem_filter, List.mem_range, keeps_gi zs (i + 1) hi]; exact ⟨hi, by simpa using hc⟩, hgi⟩
/-- Both ways give the same row. -/
theorem compact_put (xs : List Int) : Lib.compact (srt xs) = putAll xs := by
  obtain ⟨h1, h2⟩ := foldl_put xs [] List.Pairwise.nil
  refine ris_ext _ _ (compact_ris _ (srt_pair xs)) h1 fun x => ?_
  rw [compact_mem]
  have : x ∈ srt xs ↔ x ∈ xs := (List.mergeSort_perm xs _).mem_iff
  rw [this]
  show _ ↔ x ∈ xs.foldl putI []
  rw [h2]
  simp
theorem putI_len (l : List Int) (x : Int) : (putI l x).length ≤ l.length + 1 := by
  unfold putI
  have : (l.takeWhile (fun y => decide (y < x))).length + (l.dropWhile (fun y => decide (y < x))).length = l.length := by rw [← List.length_append, List.takeWhile_append_dropWhile]
  rw [List.length_append, List.length_append]
  split <;> simp <;> omega
theorem putI_at (l : List Int) (x : Int) (k : Nat) (hk : k ≤ l.length) (h1 : ∀ i, i < k → gi l i < x) (h2 : ∀ h : k < l.length, ¬ gi l k < x) :
    putI l x = if k < l.length ∧ gi l k = x then l else l.take k ++ [x] ++ l.drop k := by
  have ht : l.takeWhile (fun y => decide (y < x)) = l.take k ∧ l.dropWhile (fun y => decide (y < x)) = l.drop k := by
    induction k generalizing l with
    | zero =>
      cases l with
      | nil => exact ⟨rfl, rfl⟩
      | cons a l =>
        have := h2 (by simp)
        have ha : ¬ a < x := by simpa [gi] using this
        rw [List.takeWhile_cons_of_neg (by simpa using ha), List.dropWhile_cons_of_neg (by simpa using ha)]
        exact ⟨rfl, rfl⟩
    | succ k ih =>
      cases l with
      | nil => simp at hk
      | cons a l =>
        have ha : a < x := by simpa [gi] using h1 0 (by omega)
        rw [List.takeWhile_cons_of_pos (by simpa using ha), List.dropWhile_cons_of_pos (by simpa using ha)]
        obtain ⟨i1, i2⟩ := ih l (by simpa using hk) (fun i hi => by simpa [gi] using h1 (i + 1) (by omega)) (fun h => by simpa [gi] using h2 (by simpa using h))
        rw [i1, i2]
        exact ⟨rfl, rfl⟩
  unfold putI
  rw [ht.1, ht.2]
  by_cases hc : k < l.length ∧ gi l k = x
  · have hh : (l.drop k).head? = some x := by
      rw [List.head?_drop, List.getElem?_eq_getElem hc.1]
      have := hc.2
      simp [gi, hc.1] at this
      rw [this]
    rw [if_pos hh, if_pos hc, List.append_nil, List.take_append_drop]
  · have hh : ¬ (l.drop k).head? = some x := by
      intro hh
      rw [List.head?_drop] at hh
      obtain ⟨hlt, he⟩ := List.getElem?_eq_some_iff.1 hh
      exact hc ⟨hlt, by simp [gi, hlt, he]⟩
    rw [if_neg hh, if_neg hc]
end Go.Proofs.Ytbledcogbkeneaa
