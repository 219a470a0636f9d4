/- Flooding a grid of marks: the plain law. Conditions: none. -/
import Derived.Test.YtadljglcbieifaaDoorLib
namespace Go.Proofs.YtadljglcbieifaaDoor
set_option linter.unusedVariables false

def getM (M : List (List Bool)) (i k : Nat) : Bool := (M.getD i []).getD k false
def setM (M : List (List Bool)) (i k : Nat) : List (List Bool) := M.set i ((M.getD i []).set k true)
/-- A grid of R rows of C marks. -/
def Grid (R C : Nat) (M : List (List Bool)) : Prop := M.length = R ∧ ∀ i, i < R → (M.getD i []).length = C
theorem getD_set_same {α : Type} (l : List α) (i : Nat) (h : i < l.length) (a d : α) : (l.set i a).getD i d = a := by
  rw [List.getD_eq_getElem?_getD, List.getElem?_set_self h]; rfl
theorem getD_set_ne {α : Type} (l : List α) (i j : Nat) (h : i ≠ j) (a d : α) : (l.set i a).getD j d = l.getD j d := by
  rw [List.getD_eq_getElem?_getD, List.getElem?_set_ne h, ← List.getD_eq_getElem?_getD]
theorem grid_set {R C : Nat} {M : List (List Bool)} (h : Grid R C M) (i k : Nat) (hi : i < R) : Grid R C (setM M i k) := by
  obtain ⟨h1, h2⟩ := h
  refine ⟨by rw [setM, List.length_set, h1], fun j hj => ?_⟩
  unfold setM
  by_cases e : i = j
  · subst e
    rw [getD_set_same _ _ (by omega), List.length_set]
    exact h2 i hi
  · rw [getD_set_ne _ _ _ e]
    exact h2 j hj
theorem get_set {R C : Nat} {M : List (List Bool)} (h : Grid R C M) (i k : Nat) (hi : i < R) (hk : k < C) (j l : Nat) : getM (setM M i k) j l = if j = i ∧ l = k then true else getM M j l := by
  obtain ⟨h1, h2⟩ := h
  unfold getM setM
  by_cases e : i = j
  · subst e
    rw [getD_set_same _ _ (by omega)]
    by_cases e2 : k = l
    · subst e2
      rw [getD_set_same _ _ (by rw [h2 i hi]; exact hk)]
      simp
    · rw [getD_set_ne _ _ _ e2, if_neg (by omega)]
  · rw [getD_set_ne _ _ _ e, if_neg (by omega)]
theorem get_out {R C : Nat} {M : List (List Bool)} (h : Grid R C M) (i k : Nat) (ho : ¬ (i < R ∧ k < C)) : getM M i k = false := by
  obtain ⟨h1, h2⟩ := h
  unfold getM
  by_cases hi : i < R
  · rw [List.getD_eq_getElem?_getD, List.getElem?_eq_none (by rw [h2 i hi]; omega)]; rfl
  · rw [List.getD_eq_getElem?_getD (l := M), List.getElem?_eq_none (by omega)]; rfl
theorem grid_ext {R C : Nat} {M N : List (List Bool)} (h : Grid R C M) (h' : Grid R C N) (e : ∀ i k, i < R → k < C → getM M i k = getM N i k) : M = N := by
  obtain ⟨h1, h2⟩ := h
  obtain ⟨h3, h4⟩ := h'
  refine List.ext_getElem (by omega) fun i hi hi' => ?_
  have a1 := h2 i (by omega)
  have a2 := h4 i (by omega)
  rw [List.getD_eq_getElem?_getD, List.getElem?_eq_getElem hi, Option.getD_some] at a1
  rw [List.getD_eq_getElem?_getD, List.getElem?_eq_getElem hi', Option.getD_some] at a2
  refine List.ext_getElem (by omega) fun k hk hk' => ?_
  have := e i k (by omega) (by omega)
  unfold getM at this
  rw [List.getD_eq_getElem?_getD (l := M), List.getElem?_eq_getElem hi, Option.getD_some, List.getD_eq_getElem?_getD (l := N), List.getElem?_eq_getElem hi', Option.getD_some, List.getD_eq_getElem?_getD, List.getElem?_eq_getElem hk, Option.getD_some, List.getD_eq_getElem?_getD, List.getElem?_eq_getElem hk', Option.getD_some] at this
  exact this

/-- How many cells are not marked. -/
def cntR (r : List Bool) : Nat := (r.filter (! ·)).length
def cntM (M : List (List Bool)) : Nat := (M.map cntR).sum
theorem cntR_set (r : List Bool) (k : Nat) (hk : k < r.length) (h : r.getD k false = false) : cntR (r.set k true) + 1 = cntR r := by
  induction r generalizing k with
  | nil => simp at hk
  | cons b r ih =>
    cases k with
    | zero =>
      have hb : b = false := h
      subst hb
      simp [cntR]
    | succ k =>
      have := ih k (by simpa using hk) (by simpa using h)
      unfold cntR at this ⊢
      rw [List.set_cons_succ, List.filter_cons, List.filter_cons]
      cases b <;> simp <;> omega
theorem cntM_set {M : List (List Bool)} (i k : Nat) (hi : i < M.length) (hk : k < (M.getD i []).length) (h : getM M i k = false) : cntM (setM M i k) + 1 = cntM M := by
  induction M generalizing i with
  | nil => simp at hi
  | cons r M ih =>
    cases i with
    | zero =>
      have hk' : k < r.length := hk
      have := cntR_set r k hk' h
      unfold cntM setM
      simp
      omega
    | succ i =>
      have := ih i (by simpa using hi) (by simpa using hk) (by simpa [getM] using h)
      unfold cntM setM at this ⊢
      simp at this ⊢
      omega

/-- The marks behind flooding from a cell. -/
def flF (Fr : Int → Int → Bool) : Nat → List (List Bool) → Int → Int → List (List Bool)
  | 0, M, _, _ => M
  | f + 1, M, i, k =>
    if Fr i k = true ∧ getM M i.toNat k.toNat = false then
      flF Fr f (flF Fr f (flF Fr f (flF Fr f (setM M i.toNat k.toNat) (i - 1) k) (i + 1) k) i (k - 1)) i (k + 1)
    else M
def InR (R C : Nat) (Fr : Int → Int → Bool) : Prop := ∀ i k, Fr i k = true → 0 ≤ i ∧ i < R ∧ 0 ≤ k ∧ k < C
theorem flF_grid {R C : Nat} {Fr : Int → Int → Bool} (hF : InR R C Fr) (f : Nat) : ∀ (M : List (List Bool)) (i k : Int), Grid R C M → Grid R C (flF Fr f M i k) ∧ cntM (flF Fr f M i k) ≤ cntM M := by
  induction f with
  | zero => intro M i k h; exact ⟨h, Nat.le_refl _⟩
  | succ f ih =>
    intro M i k h
    unfold flF
    split
    · rename_i hc
      obtain ⟨h1, h2, h3, h4⟩ := hF i k hc.1
      have g0 := grid_set h i.toNat k.toNat (by omega)
      have c0 := cntM_set i.toNat k.toNat (by rw [h.1]; omega) (by rw [h.2 _ (by omega)]; omega) hc.2
      obtain ⟨g1, c1⟩ := ih _ (i - 1) k g0
      obtain ⟨g2, c2⟩ := ih _ (i + 1) k g1
      obtain ⟨g3, c3⟩ := ih _ i (k - 1) g2
      obtain ⟨g4, c4⟩ := ih _ i (k + 1) g3
      exact ⟨g4, by omega⟩
    · exact ⟨h, Nat.le_refl _⟩
theorem flF_eq {R C : Nat} {Fr : Int → Int → Bool} (hF : InR R C Fr) (f : Nat) : ∀ (g : Nat) (M : List (List Bool)) (i k : Int), Grid R C M → cntM M < f → cntM M < g → flF Fr f M i k = flF Fr g M i k := by
  induction f with
  | zero => intro g M i k _ h; omega
  | succ f ih =>
    intro g M i k h hf hg
    obtain ⟨g, rfl⟩ : ∃ g', g = g' + 1 := ⟨g - 1, by omega⟩
    unfold flF
    split
    · rename_i hc
      obtain ⟨h1, h2, h3, h4⟩ := hF i k hc.1
      have g0 := grid_set h i.toNat k.toNat (by omega)
      have c0 := cntM_set i.toNat k.toNat (by rw [h.1]; omega) (by rw [h.2 _ (by omega)]; omega) hc.2
      obtain ⟨g1, c1⟩ := flF_grid hF g _ (i - 1) k g0
      obtain ⟨g2, c2⟩ := flF_grid hF g _ (i + 1) k g1
      obtain ⟨g3, c3⟩ := flF_grid hF g _ i (k - 1) g2
      rw [ih g _ (i - 1) k g0 (by omega) (by omega), ih g _ (i + 1) k g1 (by omega) (by omega), ih g _ i (k - 1) g2 (by omega) (by omega), ih g _ i (k + 1) g3 (by omega) (by omega)]
    · rfl
def flood (Fr : Int → Int → Bool) (M : List (List Bool)) (i k : Int) : List (List Bool) := flF Fr (cntM M + 1) M i k
theorem flood_grid {R C : Nat} {Fr : Int → Int → Bool} (hF : InR R C Fr) {M : List (List Bool)} (i k : Int) (h : Grid R C M) : Grid R C (flood Fr M i k) ∧ cntM (flood Fr M i k) ≤ cntM M := flF_grid hF _ M i k h
theorem flood_no {Fr : Int → Int → Bool} {M : List (List Bool)} {i k : Int} (h : ¬ (Fr i k = true ∧ getM M i.toNat k.toNat = false)) : flood Fr M i k = M := by
  unfold flood flF; rw [if_neg h]
theorem flood_yes {R C : Nat} {Fr : Int → Int → Bool} (hF : InR R C Fr) {M : List (List Bool)} {i k : Int} (hM : Grid R C M) (h : Fr i k = true ∧ getM M i.toNat k.toNat = false) :
    flood Fr M i k = flood Fr (flood Fr (flood Fr (flood Fr (setM M i.toNat k.toNat) (i - 1) k) (i + 1) k) i (k - 1)) i (k + 1) := by
  obtain ⟨h1, h2, h3, h4⟩ := hF i k h.1
  have g0 := grid_set hM i.toNat k.toNat (by omega)
  have c0 := cntM_set i.toNat k.toNat (by rw [hM.1]; omega) (by rw [hM.2 _ (by omega)]; omega) h.2
  obtain ⟨g1, c1⟩ := flood_grid hF (i - 1) k g0
  obtain ⟨g2, c2⟩ := flood_grid hF (i + 1) k g1
  obtain ⟨g3, c3⟩ := flood_grid hF i (k - 1) g2
  have e1 : flF Fr (cntM M) (setM M i.toNat k.toNat) (i - 1) k = flood Fr (setM M i.toNat k.toNat) (i - 1) k := flF_eq hF _ _ _ _ _ g0 (by omega) (by omega)
  have e2 : flF Fr (cntM M) (flood Fr (setM M i.toNat k.toNat) (i - 1) k) (i + 1) k = flood Fr (flood Fr (setM M i.toNat k.toNat) (i - 1) k) (i + 1) k := flF_eq hF _ _ _ _ _ g1 (by omega) (by omega)
  have e3 : ∀ N : List (List Bool), Grid R C N → cntM N < cntM M → flF Fr (cntM M) N i (k - 1) = flood Fr N i (k - 1) := fun N hN hc => flF_eq hF _ _ _ _ _ hN hc (by omega)
  have e4 : ∀ N : List (List Bool), Grid R C N → cntM N < cntM M → flF Fr (cntM M) N i (k + 1) = flood Fr N i (k + 1) := fun N hN hc => flF_eq hF _ _ _ _ _ hN hc (by omega)
  show flF Fr (cntM M + 1) M i k = _
  rw [flF, if_pos h, e1, e2, e3 _ g2 (by omega), e4 _ g3 (by omega)]

/-! ### what is marked -/
def mk (M : List (List Bool)) (p : Int × Int) : Prop := 0 ≤ p.1 ∧ 0 ≤ p.2 ∧ getM M p.1.toNat p.2.toNat = true
def nbr (p q : Int × Int) : Prop := (q.2 = p.2 ∧ (q.1 = p.1 - 1 ∨ q.1 = p.1 + 1)) ∨ (q.1 = p.1 ∧ (q.2 = p.2 - 1 ∨ q.2 = p.2 + 1))
theorem nbr_symm {p q : Int × Int} (h : nbr p q) : nbr q p := by unfold nbr at *; omega
def frP (Fr : Int → Int → Bool) (p : Int × Int) : Prop := Fr p.1 p.2 = true
/-- Cells that hang together with one. -/
inductive Reach (Fr : Int → Int → Bool) (v : Int × Int) : Int × Int → Prop
  | here : frP Fr v → Reach Fr v v
  | step {u n : Int × Int} : Reach Fr v u → nbr u n → frP Fr n → Reach Fr v n
theorem Reach.free {Fr : Int → Int → Bool} {v u : Int × Int} (h : Reach Fr v u) : frP Fr u := by
  cases h with
  | here h => exact h
  | step _ _ h => exact h
theorem Reach.first {Fr : Int → Int → Bool} {v u : Int × Int} (h : Reach Fr v u) : frP Fr v := by
  induction h with
  | here h => exact h
  | step _ _ _ ih => exact ih
theorem Reach.from {Fr : Int → Int → Bool} {v n u : Int × Int} (hv : frP Fr v) (hn : nbr v n) (h : Reach Fr n u) : Reach Fr v u := by
  induction h with
  | here h => exact .step (.here hv) hn h
  | step _ h1 h2 ih => exact .step ih h1 h2

structure Fl (Fr : Int → Int → Bool) (M M' : List (List Bool)) (v : Int × Int) : Prop where
  keep : ∀ p, mk M p → mk M' p
  start : frP Fr v → mk M' v
  full : ∀ u, mk M' u → ¬ mk M u → ∀ n, nbr u n → frP Fr n → mk M' n
  only : ∀ u, mk M' u → mk M u ∨ Reach Fr v u
theorem flood_fl {R C : Nat} {Fr : Int → Int → Bool} (hF : InR R C Fr) (c : Nat) : ∀ (M : List (List Bool)) (i k : Int), cntM M ≤ c → Grid R C M → Fl Fr M (flood Fr M i k) (i, k) := by
  induction c with
  | zero =>
    intro M i k hc h
    by_cases hy : Fr i k = true ∧ getM M i.toNat k.toNat = false
    · obtain ⟨h1, h2, h3, h4⟩ := hF i k hy.1
      have := cntM_set i.toNat k.toNat (by rw [h.1]; omega) (by rw [h.2 _ (by omega)]; omega) hy.2
      omega
    · rw [flood_no hy]
      refine ⟨fun p hp => hp, fun hv => ?_, fun u h1 h2 => absurd h1 h2, fun u hu => .inl hu⟩
      obtain ⟨h1, h2, h3, h4⟩ := hF i k hv
      refine ⟨h1, h3, ?_⟩
      cases hg : getM M i.toNat k.toNat
      · exact absurd ⟨hv, hg⟩ hy
      · rfl
  | succ c ih =>
    intro M i k hc h
    by_cases hy : Fr i k = true ∧ getM M i.toNat k.toNat = false
    · obtain ⟨h1, h2, h3, h4⟩ := hF i k hy.1
      have g0 := grid_set h i.toNat k.toNat (by omega)
      have c0 := cntM_set i.toNat k.toNat (by rw [h.1]; omega) (by rw [h.2 _ (by omega)]; omega) hy.2
      rw [flood_yes hF h hy]
      obtain ⟨g1, c1⟩ := flood_grid hF (i - 1) k g0
      have f1 := ih _ (i - 1) k (by omega) g0
      obtain ⟨g2, c2⟩ := flood_grid hF (i + 1) k g1
      have f2 := ih _ (i + 1) k (by omega) g1
      obtain ⟨g3, c3⟩ := flood_grid hF i (k - 1) g2
      have f3 := ih _ i (k - 1) (by omega) g2
      obtain ⟨g4, c4⟩ := flood_grid hF i (k + 1) g3
      have f4 := ih _ i (k + 1) (by omega) g3
      have hset : ∀ p, mk (setM M i.toNat k.toNat) p ↔ mk M p ∨ p = (i, k) := by
        intro p
        unfold mk
        rw [get_set h i.toNat k.toNat (by omega) (by omega)]
        constructor
        · intro ⟨p1, p2, p3⟩
          split at p3
          · rename_i he
            right
            exact Prod.ext (by show p.1 = i; omega) (by show p.2 = k; omega)
          · left; exact ⟨p1, p2, p3⟩
        · intro hp
          rcases hp with ⟨p1, p2, p3⟩ | rfl
          · refine ⟨p1, p2, ?_⟩
            split
            · rfl
            · exact p3
          · exact ⟨h1, h3, by simp⟩
      generalize flood Fr (setM M i.toNat k.toNat) (i - 1) k = M1 at *
      generalize flood Fr M1 (i + 1) k = M2 at *
      generalize flood Fr M2 i (k - 1) = M3 at *
      generalize flood Fr M3 i (k + 1) = M4 at *
      generalize setM M i.toNat k.toNat = M0 at *
      have hv : frP Fr (i, k) := hy.1
      have hn1 : nbr (i, k) (i - 1, k) := by unfold nbr; simp
      have hn2 : nbr (i, k) (i + 1, k) := by unfold nbr; simp
      have hn3 : nbr (i, k) (i, k - 1) := by unfold nbr; simp
      have hn4 : nbr (i, k) (i, k + 1) := by unfold nbr; simp
      have u34 := f4.keep
      have u24 := fun p hp => u34 p (f3.keep p hp)
      have u14 := fun p hp => u24 p (f2.keep p hp)
      have u04 := fun p hp => u14 p (f1.keep p hp)
      refine ⟨fun p hp => u04 p ((hset p).2 (.inl hp)), fun _ => u04 _ ((hset _).2 (.inr rfl)), fun u hu hnu n hn hfn => ?_, fun u hu => ?_⟩
      · by_cases h3' : mk M3 u
        · by_cases h2' : mk M2 u
          · by_cases h1' : mk M1 u
            · by_cases h0' : mk M0 u
              · rcases (hset u).1 h0' with h' | rfl
                · exact absurd h' hnu
                · unfold nbr at hn
                  rcases hn with ⟨e1, e2 | e2⟩ | ⟨e1, e2 | e2⟩
                  · obtain rfl : n = (i - 1, k) := Prod.ext e2 e1
                    exact u14 _ (f1.start hfn)
                  · obtain rfl : n = (i + 1, k) := Prod.ext e2 e1
                    exact u24 _ (f2.start hfn)
                  · obtain rfl : n = (i, k - 1) := Prod.ext e1 e2
                    exact u34 _ (f3.start hfn)
                  · obtain rfl : n = (i, k + 1) := Prod.ext e1 e2
                    exact f4.start hfn
              · exact u14 _ (f1.full u h1' h0' n hn hfn)
            · exact u24 _ (f2.full u h2' h1' n hn hfn)
          · exact u34 _ (f3.full u h3' h2' n hn hfn)
        · exact f4.full u hu h3' n hn hfn
      · rcases f4.only u hu with hu | hu
        · rcases f3.only u hu with hu | hu
          · rcases f2.only u hu with hu | hu
            · rcases f1.only u hu with hu | hu
              · rcases (hset u).1 hu with hu | rfl
                · exact .inl hu
                · exact .inr (.here hv)
              · exact .inr (.from hv hn1 hu)
            · exact .inr (.from hv hn2 hu)
          · exact .inr (.from hv hn3 hu)
        · exact .inr (.from hv hn4 hu)
    · rw [flood_no hy]
      refine ⟨fun p hp => hp, fun hv => ?_, fun u h1 h2 => absurd h1 h2, fun u hu => .inl hu⟩
      obtain ⟨h1, h2, h3, h4⟩ := hF i k hv
      refine ⟨h1, h3, ?_⟩
      cases hg : getM M i.toNat k.toNat
      · exact absurd ⟨hv, hg⟩ hy
      · rfl
/-- Marks that hold all free neighbors of what they hold. -/
def Closed (Fr : Int → Int → Bool) (M : List (List Bool)) : Prop := ∀ u, mk M u → ∀ n, nbr u n → frP Fr n → mk M n
theorem flood_closed {R C : Nat} {Fr : Int → Int → Bool} (hF : InR R C Fr) {M : List (List Bool)} (h : Grid R C M) (hc : Closed Fr M) (i k : Int) : Closed Fr (flood Fr M i k) := by
  have f := flood_fl hF _ M i k (Nat.le_refl _) h
  intro u hu n hn hfn
  by_cases hm : mk M u
  · exact f.keep _ (hc u hm n hn hfn)
  · exact f.full u hu hm n hn hfn
theorem flood_iff {R C : Nat} {Fr : Int → Int → Bool} (hF : InR R C Fr) {M : List (List Bool)} (h : Grid R C M) (hc : Closed Fr M) (i k : Int) (u : Int × Int) : mk (flood Fr M i k) u ↔ mk M u ∨ Reach Fr (i, k) u := by
  have f := flood_fl hF _ M i k (Nat.le_refl _) h
  have c := flood_closed hF h hc i k
  constructor
  · exact f.only u
  · rintro (hu | hu)
    · exact f.keep _ hu
    · induction hu with
      | here hv => exact f.start hv
      | step _ h1 h2 ih => exact c _ ih _ h1 h2
/-- Cells that were flooded before do not matter. -/
theorem reach_less {Fr G : Int → Int → Bool} {M : List (List Bool)} (hc : Closed Fr M) (hG : ∀ p, frP G p ↔ frP Fr p ∧ ¬ mk M p) (v u : Int × Int) (hv : ¬ mk M v) : Reach G v u ↔ Reach Fr v u := by
  constructor
  · intro h
    induction h with
    | here h => exact .here ((hG _).1 h).1
    | step _ h1 h2 ih => exact .step ih h1 ((hG _).1 h2).1
  · intro h
    induction h with
    | here h => exact .here ((hG _).2 ⟨h, hv⟩)
    | step hr h1 h2 ih =>
      refine .step ih h1 ((hG _).2 ⟨h2, fun hm => ?_⟩)
      have h3 := (hG _).1 ih.free
      exact h3.2 (hc _ hm _ (nbr_symm h1) h3.1)
/-- No marks. -/
def noM (R C : Nat) : List (List Bool) := List.replicate R (List.replicate C false)
theorem noM_grid (R C : Nat) : Grid R C (noM R C) := by
  refine ⟨by simp [noM], fun i hi => ?_⟩
  unfold noM
  rw [List.getD_eq_getElem?_getD, List.getElem?_replicate_of_lt hi]
  simp
theorem noM_get (R C i k : Nat) : getM (noM R C) i k = false := by
  unfold getM noM
  rw [List.getD_eq_getElem?_getD (l := List.replicate R _), List.getElem?_replicate]
  split
  · rw [Option.getD_some, List.getD_eq_getElem?_getD, List.getElem?_replicate]; split <;> rfl
  · rfl
theorem noM_mk (R C : Nat) (p : Int × Int) : ¬ mk (noM R C) p := fun h => by
  have := h.2.2
  rw [noM_get] at this
  cases this
theorem noM_closed (R C : Nat) (Fr : Int → Int → Bool) : Closed Fr (noM R C) := fun u hu => absurd hu (noM_mk R C u)
/-- A component, from all marks or from those that are left. -/
theorem comp_same {R C : Nat} {Fr G : Int → Int → Bool} (hF : InR R C Fr) (hG' : InR R C G) {M : List (List Bool)} (hM : Grid R C M) (hc : Closed Fr M) (hG : ∀ p, frP G p ↔ frP Fr p ∧ ¬ mk M p) (i k : Int) (hv : ¬ mk M (i, k)) :
    flood G (noM R C) i k = flood Fr (noM R C) i k := by
  obtain ⟨g1, _⟩ := flood_grid hG' i k (noM_grid R C)
  obtain ⟨g2, _⟩ := flood_grid hF i k (noM_grid R C)
  refine grid_ext g1 g2 fun a b ha hb => ?_
  have e1 := flood_iff hG' (noM_grid R C) (noM_closed R C G) i k ((a : Int), (b : Int))
  have e2 := flood_iff hF (noM_grid R C) (noM_closed R C Fr) i k ((a : Int), (b : Int))
  rw [reach_less hc hG _ _ hv] at e1
  have e3 : ∀ N : List (List Bool), mk N ((a : Int), (b : Int)) ↔ getM N a b = true := fun N => by
    unfold mk
    simp
  rw [e3] at e1 e2
  rw [Bool.eq_iff_iff, e1, e2]
/-- What is left behind a component. -/
theorem comp_left {R C : Nat} {Fr G : Int → Int → Bool} (hF : InR R C Fr) (hG' : InR R C G) {M : List (List Bool)} (hM : Grid R C M) (hc : Closed Fr M) (hG : ∀ p, frP G p ↔ frP Fr p ∧ ¬ mk M p) (i k : Int) (hv : ¬ mk M (i, k)) (p : Int × Int) :
    (frP G p ∧ ¬ mk (flood G (noM R C) i k) p) ↔ frP Fr p ∧ ¬ mk (flood Fr M i k) p := by
  rw [hG, flood_iff hF hM hc, flood_iff hG' (noM_grid R C) (noM_closed R C G), reach_less hc hG _ _ hv]
  have := noM_mk R C p
  constructor
  · rintro ⟨⟨h1, h2⟩, h3⟩
    exact ⟨h1, fun h => h.elim h2 fun h => h3 (.inr h)⟩
  · rintro ⟨h1, h2⟩
    exact ⟨⟨h1, fun h => h2 (.inl h)⟩, fun h => h.elim this fun h => h2 (.inr h)⟩
end Go.Proofs.YtadljglcbieifaaDoor
