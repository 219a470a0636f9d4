/- New rows of new rows, no two of which share a block. Conditions: none. -/
import Derived.Test.YtdjchjmmpjofcaaDoorRowsG
import Derived.Test.YtdjchjmmpjofcaaDoorMemAt
namespace Go.Proofs.YtdjchjmmpjofcaaDoor
open Go.RowKit
set_option linter.unusedVariables false

/-- The i-th list of cells. -/
def gc (css : List (List Value)) (i : Nat) : List Value := css.getD i []
theorem gc_ints (xss : List (List Int)) (i : Nat) : gc (xss.map ints) i = ints (gl xss i) := by
  unfold gc gl
  by_cases h : i < xss.length <;> simp [h, List.getD, ints]
/-- No two of the cells are slices in one block. -/
def Apart (cs : List Value) : Prop := ∀ (i j : Nat) (u u' : Value) (g : Nat), cs[i]? = some u → cs[j]? = some u' → u.ownBlock = some g → u'.ownBlock = some g → i = j
/-- The cells cs are new slices with the cells css. -/
def FrC (w : World) (lo : Nat) (e : TypeId) (cs : List Value) (css : List (List Value)) : Prop :=
  cs.length = css.length ∧ (∀ i, i < css.length → ∃ Ai ci, cs[i]? = some (.slice Ai (gc css i).length ci) ∧ Own w lo e (.slice Ai (gc css i).length ci) (gc css i)) ∧ Apart cs
/-- v is a new slice of new slices. -/
def FrR (w : World) (lo : Nat) (E e : TypeId) (v : Value) (css : List (List Value)) : Prop :=
  ∃ cs, Own w lo E v cs ∧ FrC w lo e cs css ∧ ∀ (i : Nat) (u : Value) (g : Nat), cs[i]? = some u → u.ownBlock = some g → v.ownBlock ≠ some g
theorem FrC.keep {w w' : World} {lo : Nat} {e : TypeId} {cs : List Value} {css : List (List Value)} (h : FrC w lo e cs css)
    (hk : ∀ (i : Nat) (u : Value) (xs : List Value), cs[i]? = some u → Own w lo e u xs → Own w' lo e u xs) : FrC w' lo e cs css :=
  ⟨h.1, fun i hi => by obtain ⟨Ai, ci, h1, h2⟩ := h.2.1 i hi; exact ⟨Ai, ci, h1, hk i _ _ h1 h2⟩, h.2.2⟩
theorem FrR.below {w w' : World} {lo : Nat} {E e : TypeId} {v : Value} {css : List (List Value)} (h : FrR w lo E e v css) (hb : Below w.heap.size w w') : FrR w' lo E e v css := by
  obtain ⟨cs, h1, h2, h3⟩ := h
  exact ⟨cs, h1.below hb, h2.keep fun _ _ _ _ k => k.below hb, h3⟩
theorem FrR.le {w : World} {lo lo' : Nat} {E e : TypeId} {v : Value} {css : List (List Value)} (h : FrR w lo E e v css) (hl : lo' ≤ lo) : FrR w lo' E e v css := by
  obtain ⟨cs, h1, h2, h3⟩ := h
  exact ⟨cs, h1.le hl, ⟨h2.1, fun i hi => by obtain ⟨Ai, ci, k1, k2⟩ := h2.2.1 i hi; exact ⟨Ai, ci, k1, k2.le hl⟩, h2.2.2⟩, h3⟩
theorem FrR.form {w : World} {lo : Nat} {E e : TypeId} {v : Value} {css : List (List Value)} (h : FrR w lo E e v css) : ∃ A c, v = .slice A css.length c := by
  obtain ⟨cs, h1, h2, h3⟩ := h
  obtain ⟨A, c, hv⟩ := h1.form
  exact ⟨A, c, by rw [hv, h2.1]⟩
theorem FrR.blk {w : World} {lo : Nat} {E e : TypeId} {v : Value} {css : List (List Value)} (h : FrR w lo E e v css) : ∀ g, v.ownBlock = some g → lo ≤ g ∧ g < w.heap.size := by
  obtain ⟨cs, h1, h2, h3⟩ := h
  exact fun g hg => h1.lt g hg
theorem FrR.nil {w : World} {lo : Nat} {E e : TypeId} {v : Value} (h : Own w lo E v []) : FrR w lo E e v [] :=
  ⟨[], h, ⟨rfl, fun i hi => absurd hi (by simp), fun i j u u' g hi => by simp at hi⟩, fun i u g hi => by simp at hi⟩
theorem FrR.rd {w : World} {lo : Nat} {E : TypeId} {A : Option Addr} {n c : Nat} {xss : List (List Int)} (h : FrR w lo E 3 (.slice A n c) (xss.map ints)) : RdR w lo w.heap.size A c xss := by
  obtain ⟨cs, h1, h2, h3⟩ := h
  refine ⟨cs, h1.rd, Lo.own h1, by rw [h2.1, List.length_map], fun i hi => ?_⟩
  obtain ⟨Ai, ci, k1, k2⟩ := h2.2.1 i (by rw [List.length_map]; exact hi)
  rw [gc_ints, ints_len] at k1 k2
  exact ⟨Ai, ci, k1, k2.rd, Lo.own k2⟩
/-- A row that is newer than all is put behind. -/
theorem FrR.push {w w1 w2 w3 : World} {lo : Nat} {E e : TypeId} {v v' r : Value} {cs : List Value} {css : List (List Value)} {xs : List Value} (h : Own w lo E v cs ∧ FrC w lo e cs css ∧ ∀ (i : Nat) (u : Value) (g : Nat), cs[i]? = some u → u.ownBlock = some g → v.ownBlock ≠ some g) (hlo : lo ≤ w.heap.size)
    (hb1 : Below w.heap.size w w1) (hr : Own w1 w.heap.size e r xs) (hb2 : Below w1.heap.size w1 w2)
    (ho : Own w3 lo E v' (cs ++ [r])) (hg : w2.grownBy w3 v.ownBlock) (hp : v'.ownBlock = v.ownBlock ∨ v'.ownBlock = some w2.heap.size) :
    FrR w3 lo E e v' (css ++ [xs]) := by
  obtain ⟨h1, h2, h3⟩ := h
  have hb12 : Below w.heap.size w w2 := hb1.trans (hb2.mono hb1.size)
  have hcs := h2.1
  have hvlt : ∀ g, v.ownBlock = some g → g < w.heap.size := fun g hgv => (h1.lt g hgv).2
  have hrlt : ∀ g, r.ownBlock = some g → w.heap.size ≤ g ∧ g < w1.heap.size := fun g hgr => hr.lt g hgr
  have hz12 := hb2.size
  have hold : ∀ (i : Nat) (u : Value) (g : Nat), cs[i]? = some u → u.ownBlock = some g → g < w.heap.size := by
    intro i u g hi hu
    have hil : i < css.length := by
      rw [← hcs]
      rcases Nat.lt_or_ge i cs.length with h' | h'
      · exact h'
      · rw [List.getElem?_eq_none h'] at hi; cases hi
    obtain ⟨Ai, ci, k1, k2⟩ := h2.2.1 i hil
    rw [k1] at hi
    injection hi with hi
    subst hi
    exact (k2.lt g hu).2
  have hr2 : Own w2 w.heap.size e r xs := hr.below hb2
  have hr3 : Own w3 w.heap.size e r xs := by
    refine hr2.grown hg ?_
    by_cases hrb : r.ownBlock = none
    · exact .inl hrb
    · refine .inr fun he => ?_
      obtain ⟨g, hgr⟩ := Option.ne_none_iff_exists'.1 hrb
      have e1 := (hrlt g hgr).1
      have e2 := hvlt g (by rw [← he]; exact hgr)
      omega
  refine ⟨cs ++ [r], ho, ⟨by simp [hcs], fun i hi => ?_, ?_⟩, ?_⟩
  · rw [List.length_append, List.length_singleton] at hi
    by_cases hl : i < css.length
    · obtain ⟨Ai, ci, k1, k2⟩ := h2.2.1 i hl
      have eg : gc (css ++ [xs]) i = gc css i := by simp [gc, List.getElem?_append_left hl]
      rw [eg]
      refine ⟨Ai, ci, by rw [List.getElem?_append_left (by omega)]; exact k1, (k2.below hb12).grown hg ?_⟩
      by_cases hrb : (Value.slice Ai (gc css i).length ci).ownBlock = none
      · exact .inl hrb
      · refine .inr fun he => ?_
        obtain ⟨g, hgr⟩ := Option.ne_none_iff_exists'.1 hrb
        exact h3 i _ g k1 hgr (by rw [← he]; exact hgr)
    · obtain rfl : i = css.length := by omega
      have eg : gc (css ++ [xs]) css.length = xs := by simp [gc]
      rw [eg]
      obtain ⟨A, c, hv⟩ := hr3.form
      refine ⟨A, c, by rw [List.getElem?_append_right (by omega), hcs, Nat.sub_self, hv]; rfl, by rw [← hv]; exact hr3.le hlo⟩
  · intro i j u u' g hi hj hu hu'
    have bound : ∀ {t : Nat} {x : Value}, (cs ++ [r])[t]? = some x → (t < cs.length ∧ cs[t]? = some x) ∨ (t = cs.length ∧ x = r) := by
      intro t x ht
      by_cases hl : t < cs.length
      · rw [List.getElem?_append_left hl] at ht; exact .inl ⟨hl, ht⟩
      · rw [List.getElem?_append_right (by omega)] at ht
        rcases Nat.eq_zero_or_pos (t - cs.length) with h0 | h0
        · rw [h0] at ht; simp at ht; exact .inr ⟨by omega, ht.symm⟩
        · rw [List.getElem?_eq_none (by simp; omega)] at ht; cases ht
    rcases bound hi with ⟨a1, a2⟩ | ⟨a1, a2⟩ <;> rcases bound hj with ⟨b1, b2⟩ | ⟨b1, b2⟩
    · exact h2.2.2 i j u u' g a2 b2 hu hu'
    · subst b2
      have := hold i u g a2 hu
      have := (hrlt g hu').1
      omega
    · subst a2
      have := hold j u' g b2 hu'
      have := (hrlt g hu).1
      omega
    · omega
  · intro i u g hi hu hv
    have hu2 : g < w2.heap.size ∧ v.ownBlock ≠ some g := by
      by_cases hl : i < cs.length
      · rw [List.getElem?_append_left hl] at hi
        exact ⟨by have := hold i u g hi hu; have := hb12.size; omega, h3 i u g hi hu⟩
      · rw [List.getElem?_append_right (by omega)] at hi
        rcases Nat.eq_zero_or_pos (i - cs.length) with h0 | h0
        · rw [h0] at hi; simp at hi; subst hi
          refine ⟨by have := (hrlt g hu).2; omega, fun he => ?_⟩
          have := hvlt g he
          have := (hrlt g hu).1
          omega
        · rw [List.getElem?_eq_none (by simp; omega)] at hi; cases hi
    rcases hp with hp | hp
    · exact hu2.2 (by rw [← hp]; exact hv)
    · rw [hp] at hv
      injection hv with hv
      omega
/-- One row alone. -/
theorem FrR.single {w : World} {lo : Nat} {E e : TypeId} {v r : Value} {xs : List Value} (h : Own w lo E v [r]) (hr : Own w lo e r xs) (hne : ∀ g, r.ownBlock = some g → v.ownBlock ≠ some g) : FrR w lo E e v [xs] := by
  refine ⟨[r], h, ⟨rfl, fun i hi => ?_, fun i j u u' g hi hj _ _ => ?_⟩, fun i u g hi hu => ?_⟩
  · obtain rfl : i = 0 := by simpa using hi
    obtain ⟨A, c, hv⟩ := hr.form
    exact ⟨A, c, by rw [hv]; rfl, by show Own w lo e (.slice A xs.length c) xs; rw [← hv]; exact hr⟩
  · have key : ∀ {t : Nat} {x : Value}, [r][t]? = some x → t = 0 := by
      intro t x ht
      rcases Nat.eq_zero_or_pos t with h0 | h0
      · exact h0
      · rw [List.getElem?_eq_none (by simp; omega)] at ht; cases ht
    rw [key hi, key hj]
  · rcases Nat.eq_zero_or_pos i with h0 | h0
    · subst h0; simp at hi; subst hi; exact hne g hu
    · rw [List.getElem?_eq_none (by simp; omega)] at hi; cases hi
theorem Own.lit1 (w : World) (base : Nat) (T : TypeId) (u : Value) (hb : base ≤ w.heap.size) : Own (w.alloc (.cells #[u] T)) base T (.slice (some ⟨w.heap.size, 0, none⟩) 1 1) [u] :=
  World.ownsRow_lit w #[u] 1 hb (by unfold maxLen; omega) rfl
/-- One row is written on. -/
theorem FrR.mark {w w' : World} {lo : Nat} {E e : TypeId} {v u : Value} {css : List (List Value)} {i : Nat} {ys : List Value} {g : Nat} (h : FrR w lo E e v css)
    (hi : ∀ cs, Own w lo E v cs → FrC w lo e cs css → cs[i]? = some u ) (hu : u.ownBlock = some g) (hil : i < css.length) (hy : ys.length = (gc css i).length) (ho : Own w' lo e u ys) (hg : w.grownBy w' (some g)) :
    FrR w' lo E e v (css.set i ys) := by
  obtain ⟨cs, h1, h2, h3⟩ := h
  have hcu := hi cs h1 h2
  refine ⟨cs, h1.grown hg ?_, ⟨by rw [List.length_set]; exact h2.1, fun j hj => ?_, h2.2.2⟩, h3⟩
  · by_cases hv : v.ownBlock = none
    · exact .inl hv
    · exact .inr (h3 i u g hcu hu)
  · rw [List.length_set] at hj
    by_cases hij : i = j
    · subst hij
      obtain ⟨Ai, ci, k1, k2⟩ := h2.2.1 i hj
      rw [hcu] at k1
      injection k1 with k1
      have eg : gc (css.set i ys) i = ys := by simp [gc, hj]
      rw [eg, hy]
      exact ⟨Ai, ci, by rw [hcu, k1], by rw [← k1]; exact ho⟩
    · obtain ⟨Ai, ci, k1, k2⟩ := h2.2.1 j hj
      have eg : gc (css.set i ys) j = gc css j := by simp [gc, List.getElem?_set_ne hij]
      rw [eg]
      refine ⟨Ai, ci, k1, k2.grown hg ?_⟩
      by_cases hrb : (Value.slice Ai (gc css j).length ci).ownBlock = none
      · exact .inl hrb
      · exact .inr fun he => hij (h2.2.2 i j u _ g hcu k1 hu he)
end Go.Proofs.YtdjchjmmpjofcaaDoor
