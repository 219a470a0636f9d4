/- Rows of trees: new ones, apart. Conditions: none. -/
import Derived.Test.YtbhficohgdlojaaDoorFresh
import Derived.Test.YtbhficohgdlojaaDoorAppK
import Derived.Test.YtbhficohgdlojaaDoorTree
namespace Go.Proofs.YtbhficohgdlojaaDoor
open Go.RowKit
set_option linter.unusedVariables false

theorem infoTree : (Tryd.prog.info? 26).map (fun i => (i.zero, i.size, i.bytes)) = some (some (.agg #[.slice none 0 0, .string ⟨#[]⟩]), 2, 40) := by kernel_rfl
def gtr' (ts : List (List Int × ByteArray)) (i : Nat) : List Int × ByteArray := ts.getD i ([], ⟨#[]⟩)
/-- The cells of trees: the slices us, the texts of ts. -/
def flT : List Value → List (List Int × ByteArray) → List Value
  | u :: us, t :: ts => u :: .string t.2 :: flT us ts
  | _, _ => []
theorem flT_len (us : List Value) (ts : List (List Int × ByteArray)) (h : us.length = ts.length) : (flT us ts).length = ts.length * 2 := by
  induction us generalizing ts with
  | nil => cases ts with
    | nil => rfl
    | cons t ts => simp at h
  | cons u us ih => cases ts with
    | nil => simp at h
    | cons t ts =>
      have := ih ts (by simpa using h)
      show (u :: .string t.2 :: flT us ts).length = _
      simp [this]; omega
theorem flT_snoc (us : List Value) (ts : List (List Int × ByteArray)) (u : Value) (t : List Int × ByteArray) (h : us.length = ts.length) : flT (us ++ [u]) (ts ++ [t]) = flT us ts ++ [u, .string t.2] := by
  induction us generalizing ts with
  | nil => cases ts with
    | nil => rfl
    | cons t ts => simp at h
  | cons a us ih => cases ts with
    | nil => simp at h
    | cons b ts =>
      have := ih ts (by simpa using h)
      show a :: .string b.2 :: flT (us ++ [u]) (ts ++ [t]) = _
      rw [this]; rfl
theorem flT_at (us : List Value) (ts : List (List Int × ByteArray)) (h : us.length = ts.length) (i : Nat) (hi : i < ts.length) : (flT us ts)[i * 2]? = us[i]? ∧ (flT us ts)[i * 2 + 1]? = some (.string (gtr' ts i).2) := by
  induction us generalizing ts i with
  | nil => cases ts with
    | nil => simp at hi
    | cons t ts => simp at h
  | cons a us ih => cases ts with
    | nil => simp at h
    | cons b ts =>
      cases i with
      | zero => exact ⟨rfl, rfl⟩
      | succ i =>
        have := ih ts (by simpa using h) i (by simpa using hi)
        have e1 : (flT (a :: us) (b :: ts))[(i + 1) * 2]? = (flT us ts)[i * 2]? := by rw [show (i + 1) * 2 = i * 2 + 1 + 1 by omega]; rfl
        have e2 : (flT (a :: us) (b :: ts))[(i + 1) * 2 + 1]? = (flT us ts)[i * 2 + 1]? := by rw [show (i + 1) * 2 + 1 = i * 2 + 1 + 1 + 1 by omega]; rfl
        rw [e1, e2]
        exact ⟨this.1.trans (by simp), this.2.trans (by simp [gtr'])⟩

/-- A slice that is newer than all is put behind; v is where the slices lie, v' where they lie then. -/
theorem FrC.push {w w1 w2 w3 : World} {lo : Nat} {e : TypeId} {v v' r : Value} {cs : List Value} {css : List (List Value)} {xs : List Value} (h2 : FrC w lo e cs css) (h3 : ∀ (i : Nat) (u : Value) (g : Nat), cs[i]? = some u → u.ownBlock = some g → v.ownBlock ≠ some g)
    (hvlt : ∀ g, v.ownBlock = some g → g < w.heap.size) (hlo : lo ≤ w.heap.size)
    (hb1 : Below w.heap.size w w1) (hr : Own w1 w.heap.size e r xs) (hb2 : Below w1.heap.size w1 w2) (hg : w2.grownBy w3 v.ownBlock) (hp : v'.ownBlock = v.ownBlock ∨ v'.ownBlock = some w2.heap.size) :
    FrC w3 lo e (cs ++ [r]) (css ++ [xs]) ∧ ∀ (i : Nat) (u : Value) (g : Nat), (cs ++ [r])[i]? = some u → u.ownBlock = some g → v'.ownBlock ≠ some g := by
  have hb12 : Below w.heap.size w w2 := hb1.trans (hb2.mono hb1.size)
  have hcs := h2.1
  have hrlt : ∀ g, r.ownBlock = some g → w.heap.size ≤ g ∧ g < w1.heap.size := fun g hgr => hr.lt g hgr
  have hz12 := hb2.size
  have hold : ∀ (i : Nat) (u : Value) (g : Nat), cs[i]? = some u → u.ownBlock = some g → g < w.heap.size := by
    intro i u g hi hu
    have hil : i < css.length := by
      rw [← hcs]
      rcases Nat.lt_or_ge i cs.length with h' | h'
      · exact h'
      · rw [List.getElem?_eq_none h'] at hi; cases hi
    obtain ⟨Ai, ci, k1, k2⟩ := h2.2.1 i hil
    rw [k1] at hi
    injection hi with hi
    subst hi
    exact (k2.lt g hu).2
  have hr3 : Own w3 w.heap.size e r xs := by
    refine (hr.below hb2).grown hg ?_
    by_cases hrb : r.ownBlock = none
    · exact .inl hrb
    · refine .inr fun he => ?_
      obtain ⟨g, hgr⟩ := Option.ne_none_iff_exists'.1 hrb
      have e1 := (hrlt g hgr).1
      have e2 := hvlt g (by rw [← he]; exact hgr)
      omega
  have bound : ∀ {t : Nat} {x : Value}, (cs ++ [r])[t]? = some x → (t < cs.length ∧ cs[t]? = some x) ∨ (t = cs.length ∧ x = r) := by
    intro t x ht
    by_cases hl : t < cs.length
    · rw [List.getElem?_append_left hl] at ht; exact .inl ⟨hl, ht⟩
    · rw [List.getElem?_append_right (by omega)] at ht
      rcases Nat.eq_zero_or_pos (t - cs.length) with h0 | h0
      · rw [h0] at ht; simp at ht; exact .inr ⟨by omega, ht.symm⟩
      · rw [List.getElem?_eq_none (by simp; omega)] at ht; cases ht
  refine ⟨⟨by simp [hcs], fun i hi => ?_, ?_⟩, ?_⟩
  · rw [List.length_append, List.length_singleton] at hi
    by_cases hl : i < css.length
    · obtain ⟨Ai, ci, k1, k2⟩ := h2.2.1 i hl
      have eg : gc (css ++ [xs]) i = gc css i := by simp [gc, List.getElem?_append_left hl]
      rw [eg]
      refine ⟨Ai, ci, by rw [List.getElem?_append_left (by omega)]; exact k1, (k2.below hb12).grown hg ?_⟩
      by_cases hrb : (Value.slice Ai (gc css i).length ci).ownBlock = none
      · exact .inl hrb
      · refine .inr fun he => ?_
        obtain ⟨g, hgr⟩ := Option.ne_none_iff_exists'.1 hrb
        exact h3 i _ g k1 hgr (by rw [← he]; exact hgr)
    · obtain rfl : i = css.length := by omega
      have eg : gc (css ++ [xs]) css.length = xs := by simp [gc]
      rw [eg]
      obtain ⟨A, c, hv⟩ := hr3.form
      refine ⟨A, c, by rw [List.getElem?_append_right (by omega), hcs, Nat.sub_self, hv]; rfl, by rw [← hv]; exact hr3.le hlo⟩
  · intro i j u u' g hi hj hu hu'
    rcases bound hi with ⟨a1, a2⟩ | ⟨a1, a2⟩ <;> rcases bound hj with ⟨b1, b2⟩ | ⟨b1, b2⟩
    · exact h2.2.2 i j u u' g a2 b2 hu hu'
    · subst b2
      have := hold i u g a2 hu
      have := (hrlt g hu').1
      omega
    · subst a2
      have := hold j u' g b2 hu'
      have := (hrlt g hu).1
      omega
    · omega
  · intro i u g hi hu hv
    have hu2 : g < w2.heap.size ∧ v.ownBlock ≠ some g := by
      rcases bound hi with ⟨a1, a2⟩ | ⟨a1, a2⟩
      · exact ⟨by have := hold i u g a2 hu; have := hb12.size; omega, h3 i u g a2 hu⟩
      · subst a2
        refine ⟨by have := (hrlt g hu).2; omega, fun he => ?_⟩
        have := hvlt g he
        have := (hrlt g hu).1
        omega
    rcases hp with hp | hp
    · exact hu2.2 (by rw [← hp]; exact hv)
    · rw [hp] at hv
      injection hv with hv
      omega
/-- v is a new slice of new trees. -/
def FrT (w : World) (lo : Nat) (v : Value) (ts : List (List Int × ByteArray)) : Prop :=
  ∃ us, w.ownsRow lo 26 2 v ts.length (flT us ts) ∧ FrC w lo 3 us (ts.map fun t => ints t.1) ∧ ∀ (i : Nat) (u : Value) (g : Nat), us[i]? = some u → u.ownBlock = some g → v.ownBlock ≠ some g
theorem FrT.below {w w' : World} {lo : Nat} {v : Value} {ts : List (List Int × ByteArray)} (h : FrT w lo v ts) (hb : Below w.heap.size w w') : FrT w' lo v ts := by
  obtain ⟨us, h1, h2, h3⟩ := h
  exact ⟨us, ownsK_below h1 hb, h2.keep fun _ _ _ _ k => k.below hb, h3⟩
theorem FrT.le {w : World} {lo lo' : Nat} {v : Value} {ts : List (List Int × ByteArray)} (h : FrT w lo v ts) (hl : lo' ≤ lo) : FrT w lo' v ts := by
  obtain ⟨us, h1, h2, h3⟩ := h
  exact ⟨us, ownsK_le h1 hl, ⟨h2.1, fun i hi => by obtain ⟨Ai, ci, k1, k2⟩ := h2.2.1 i hi; exact ⟨Ai, ci, k1, k2.le hl⟩, h2.2.2⟩, h3⟩
theorem FrT.form {w : World} {lo : Nat} {v : Value} {ts : List (List Int × ByteArray)} (h : FrT w lo v ts) : ∃ A c, v = .slice A ts.length c := by
  obtain ⟨us, h1, h2, h3⟩ := h
  exact ownsK_form h1
theorem FrT.blk {w : World} {lo : Nat} {v : Value} {ts : List (List Int × ByteArray)} (h : FrT w lo v ts) : ∀ g, v.ownBlock = some g → lo ≤ g ∧ g < w.heap.size := by
  obtain ⟨us, h1, h2, h3⟩ := h
  exact fun g hg => h1.lt g hg
theorem FrT.nil {w : World} {lo : Nat} {v : Value} (h : w.ownsRow lo 26 2 v 0 []) : FrT w lo v [] :=
  ⟨[], h, ⟨rfl, fun i hi => absurd hi (by simp), fun i j u u' g hi => by simp at hi⟩, fun i u g hi => by simp at hi⟩
theorem FrT.far {w : World} {lo : Nat} {v : Value} {ts : List (List Int × ByteArray)} (h : FrT w lo v ts) (p : Addr) (u : Value) (hp : p.block < lo) : FrT (w.setCell p u) lo v ts := by
  obtain ⟨us, h1, h2, h3⟩ := h
  refine ⟨us, ownsK_far h1 (fun e => by have := (h1.lt _ e).1; omega), h2.keep fun _ x _ _ k => k.far _ _ (fun e => by have := (k.lt _ e).1; omega), h3⟩
/-- A tree that is newer than all is put behind. -/
theorem FrT.push {w w1 w2 w3 : World} {lo : Nat} {v v' r : Value} {us : List Value} {ts : List (List Int × ByteArray)} {t : List Int × ByteArray}
    (h : w.ownsRow lo 26 2 v ts.length (flT us ts) ∧ FrC w lo 3 us (ts.map fun t => ints t.1) ∧ ∀ (i : Nat) (u : Value) (g : Nat), us[i]? = some u → u.ownBlock = some g → v.ownBlock ≠ some g) (hlo : lo ≤ w.heap.size)
    (hb1 : Below w.heap.size w w1) (hr : Own w1 w.heap.size 3 r (ints t.1)) (hb2 : Below w1.heap.size w1 w2)
    (ho : w3.ownsRow lo 26 2 v' (ts.length + 1) (flT us ts ++ [r, .string t.2])) (hg : w2.grownBy w3 v.ownBlock) (hp : v'.ownBlock = v.ownBlock ∨ v'.ownBlock = some w2.heap.size) :
    FrT w3 lo v' (ts ++ [t]) := by
  obtain ⟨h1, h2, h3⟩ := h
  obtain ⟨k1, k2⟩ := FrC.push h2 h3 (fun g hg => (h1.lt g hg).2) hlo hb1 hr hb2 hg hp
  have hl : us.length = ts.length := by rw [h2.1, List.length_map]
  refine ⟨us ++ [r], ?_, by rw [List.map_append]; exact k1, k2⟩
  rw [flT_snoc us ts r t hl, List.length_append, List.length_singleton]
  exact ho
end Go.Proofs.YtbhficohgdlojaaDoor
