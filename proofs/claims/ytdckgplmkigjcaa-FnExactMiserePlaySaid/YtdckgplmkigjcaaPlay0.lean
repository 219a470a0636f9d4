/- A position played to its end: the plain law. Conditions: none. -/
import Derived.Test.YtdckgplmkigjcaaOpt0
namespace Go.Proofs.Ytdckgplmkigjcaa
open Go.RowKit
set_option linter.unusedVariables false

/-- xss is all that a move may leave with the value 0, in order. -/
def Wn (cs p : List Int) (xss : List (List Int)) : Prop := Sorted xss ∧ ∀ q, q ∈ xss ↔ optP cs p q ∧ mz cs q = 0
theorem Wn.unique {cs p : List Int} {xss yss : List (List Int)} (h : Wn cs p xss) (k : Wn cs p yss) : xss = yss :=
  sorted_unique h.1 k.1 fun q => (h.2 q).trans (k.2 q).symm
/-- A list put to its place, once and again. -/
theorem foldPut (L : List (List Int)) : ∀ m, Sorted m → Sorted (L.foldl putL m) ∧ ∀ y, y ∈ L.foldl putL m ↔ y ∈ m ∨ y ∈ L := by
  induction L with
  | nil => intro m h; exact ⟨h, fun y => by simp⟩
  | cons a L ih =>
    intro m h
    obtain ⟨i1, i2⟩ := ih (putL m a) (sorted_putL h)
    refine ⟨i1, fun y => ?_⟩
    rw [List.foldl_cons, i2, mem_putL, List.mem_cons]
    constructor
    · rintro ((h | h) | h)
      · exact .inl h
      · exact .inr (.inl h)
      · exact .inr (.inr h)
    · rintro (h | h | h)
      · exact .inl (.inl h)
      · exact .inl (.inr h)
      · exact .inr h
/-- What is left by the first move of the first heap that has one. -/
def Fm (cs p q : List Int) : Prop := ∃ i, i < p.length ∧ (∀ j, j < i → ¬ ∃ mv, isMv cs (gi p j).toNat mv) ∧ ∃ mvs : List (List Int), Sorted mvs ∧ (∀ x, x ∈ mvs ↔ isMv cs (gi p i).toNat x) ∧ ∃ mv rest, mvs = mv :: rest ∧ q = aft p i mv
theorem Fm.unique {cs p q r : List Int} (h : Fm cs p q) (k : Fm cs p r) : q = r := by
  obtain ⟨i, h1, h2, mvs, h3, h4, mv, rest, h5, rfl⟩ := h
  obtain ⟨j, k1, k2, nvs, k3, k4, nv, rest', k5, rfl⟩ := k
  have e1 : isMv cs (gi p i).toNat mv := (h4 mv).1 (by rw [h5]; exact List.mem_cons_self)
  have e2 : isMv cs (gi p j).toNat nv := (k4 nv).1 (by rw [k5]; exact List.mem_cons_self)
  obtain rfl : i = j := by
    rcases Nat.lt_trichotomy i j with e | e | e
    · exact absurd ⟨mv, e1⟩ (k2 i e)
    · exact e
    · exact absurd ⟨nv, e2⟩ (h2 j e)
  have e3 : mvs = nvs := sorted_unique h3 k3 fun x => (h4 x).trans (k4 x).symm
  rw [h5, k5] at e3
  injection e3 with e3 _
  rw [e3]
theorem Fm.opt {cs p q : List Int} (h : Fm cs p q) : optP cs p q := by
  obtain ⟨i, h1, h2, mvs, h3, h4, mv, rest, h5, rfl⟩ := h
  exact ⟨i, h1, mv, (h4 mv).1 (by rw [h5]; exact List.mem_cons_self), rfl⟩
/-- What is played next. -/
def Nx (cs p : List Int) (r : Option (List Int)) : Prop :=
  (r = none ∧ ¬ ∃ q, optP cs p q) ∨ (∃ q rest, r = some q ∧ Wn cs p (q :: rest)) ∨ (∃ q, r = some q ∧ Wn cs p [] ∧ Fm cs p q)
theorem Nx.unique {cs p : List Int} {r s : Option (List Int)} (h : Nx cs p r) (k : Nx cs p s) : r = s := by
  rcases h with ⟨rfl, h1⟩ | ⟨q, rest, rfl, h1⟩ | ⟨q, rfl, h1, h2⟩ <;> rcases k with ⟨rfl, k1⟩ | ⟨q', rest', rfl, k1⟩ | ⟨q', rfl, k1, k2⟩
  · rfl
  · exact absurd ⟨q', ((k1.2 q').1 List.mem_cons_self).1⟩ h1
  · exact absurd ⟨q', k2.opt⟩ h1
  · exact absurd ⟨q, ((h1.2 q).1 List.mem_cons_self).1⟩ k1
  · have := h1.unique k1
    injection this with this _
    rw [this]
  · have := h1.unique k1
    cases this
  · exact absurd ⟨q, h2.opt⟩ k1
  · have := h1.unique k1
    cases this
  · rw [h2.unique k2]
theorem Nx.opt {cs p q : List Int} (h : Nx cs p (some q)) : optP cs p q := by
  rcases h with ⟨h, _⟩ | ⟨q', rest, h, h1⟩ | ⟨q', h, h1, h2⟩
  · cases h
  · injection h with h; subst h
    exact ((h1.2 q).1 List.mem_cons_self).1
  · injection h with h; subst h
    exact h2.opt
/-- P is the play from p on. -/
inductive Pl (cs : List Int) : List Int → List (List Int) → Prop
  | done (p : List Int) (h : Nx cs p none) : Pl cs p []
  | go (p q : List Int) (P : List (List Int)) (h : Nx cs p (some q)) (k : Pl cs q P) : Pl cs p (q :: P)
theorem Pl.unique {cs : List Int} : ∀ {P : List (List Int)} {p : List Int} {Q : List (List Int)}, Pl cs p P → Pl cs p Q → P = Q
  | [], p, Q, h, k => by
    cases h with
    | done _ h =>
      cases k with
      | done _ k => rfl
      | go _ q Q k _ => have := h.unique k; cases this
  | q :: P, p, Q, h, k => by
    cases h with
    | go _ _ _ h h' =>
      cases k with
      | done _ k => have := h.unique k; cases this
      | go _ q' Q k k' =>
        have := h.unique k
        injection this with this
        subst this
        rw [Pl.unique h' k']
/-- What the play has been, and what is left of it. -/
inductive Pd (cs : List Int) (p0 : List Int) : List (List Int) → List Int → Prop
  | start : Pd cs p0 [] p0
  | step (D : List (List Int)) (p q : List Int) (h : Pd cs p0 D p) (k : Nx cs p (some q)) : Pd cs p0 (D ++ [q]) q
theorem Pd.fin {cs p0 : List Int} {D : List (List Int)} {p : List Int} (h : Pd cs p0 D p) : ∀ P, Pl cs p P → Pl cs p0 (D ++ P) := by
  induction h with
  | start => intro P k; exact k
  | step D p q h k ih =>
    intro P k'
    rw [List.append_assoc]
    exact ih (q :: P) (.go p q P k k')
theorem Pd.len {N : Nat} {cs p0 : List Int} {D : List (List Int)} {p : List Int} (hp : Hp N p0) (h : Pd cs p0 D p) : Hp N p ∧ (D.length : Int) + sm p ≤ sm p0 ∧ ∀ q ∈ D, q.length ≤ N := by
  induction h with
  | start => exact ⟨hp, by simp, fun q hq => by cases hq⟩
  | step D p q h k ih =>
    obtain ⟨h1, h2, h3⟩ := ih
    obtain ⟨k1, k2⟩ := hp_opt h1 k.opt
    refine ⟨k1, by rw [List.length_append, List.length_singleton]; omega, fun r hr => ?_⟩
    rcases List.mem_append.1 hr with hr | hr
    · exact h3 r hr
    · rw [List.mem_singleton] at hr
      subst hr
      exact k1.len
end Go.Proofs.Ytdckgplmkigjcaa
