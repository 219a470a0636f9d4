/- New rows of nodes, each with two new rows of numbers, apart. Conditions: none. -/
import Derived.Test.YtdjchjmmpjofcaaDoorMark
import Derived.Test.YtdjchjmmpjofcaaDoorAppK
import Derived.Test.YtdjchjmmpjofcaaDoorPl0
namespace Go.Proofs.YtdjchjmmpjofcaaDoor
open Go.RowKit Go.Maps
set_option linter.unusedVariables false

theorem infoNode : (Tryd.prog.info? 40).map (fun i => (i.zero, i.size, i.bytes)) = some (some (.agg #[.slice none 0 0, .slice none 0 0]), 2, 48) := by kernel_rfl
/-- A slice that is newer than all is put behind; v is where the slices lie, v' where they lie then. -/
theorem FrC.push {w w1 w2 w3 : World} {lo : Nat} {e : TypeId} {v v' r : Value} {cs : List Value} {css : List (List Value)} {xs : List Value} (h2 : FrC w lo e cs css) (h3 : ∀ (i : Nat) (u : Value) (g : Nat), cs[i]? = some u → u.ownBlock = some g → v.ownBlock ≠ some g)
    (hvlt : ∀ g, v.ownBlock = some g → g < w.heap.size) (hlo : lo ≤ w.heap.size)
    (hb1 : Below w.heap.size w w1) (hr : Own w1 w.heap.size e r xs) (hb2 : Below w1.heap.size w1 w2) (hg : w2.grownBy w3 v.ownBlock) (hp : v'.ownBlock = v.ownBlock ∨ v'.ownBlock = some w2.heap.size) :
    FrC w3 lo e (cs ++ [r]) (css ++ [xs]) ∧ ∀ (i : Nat) (u : Value) (g : Nat), (cs ++ [r])[i]? = some u → u.ownBlock = some g → v'.ownBlock ≠ some g := by
  have hb12 : Below w.heap.size w w2 := hb1.trans (hb2.mono hb1.size)
  have hcs := h2.1
  have hrlt : ∀ g, r.ownBlock = some g → w.heap.size ≤ g ∧ g < w1.heap.size := fun g hgr => hr.lt g hgr
  have hz12 := hb2.size
  have hold : ∀ (i : Nat) (u : Value) (g : Nat), cs[i]? = some u → u.ownBlock = some g → g < w.heap.size := by
    intro i u g hi hu
    have hil : i < css.length := by
      rw [← hcs]
      rcases Nat.lt_or_ge i cs.length with h' | h'
      · exact h'
      · rw [List.getElem?_eq_none h'] at hi; cases hi
    obtain ⟨Ai, ci, k1, k2⟩ := h2.2.1 i hil
    rw [k1] at hi
    injection hi with hi
    subst hi
    exact (k2.lt g hu).2
  have hr3 : Own w3 w.heap.size e r xs := by
    refine (hr.below hb2).grown hg ?_
    by_cases hrb : r.ownBlock = none
    · exact .inl hrb
    · refine .inr fun he => ?_
      obtain ⟨g, hgr⟩ := Option.ne_none_iff_exists'.1 hrb
      have e1 := (hrlt g hgr).1
      have e2 := hvlt g (by rw [← he]; exact hgr)
      omega
  have bound : ∀ {t : Nat} {x : Value}, (cs ++ [r])[t]? = some x → (t < cs.length ∧ cs[t]? = some x) ∨ (t = cs.length ∧ x = r) := by
    intro t x ht
    by_cases hl : t < cs.length
    · rw [List.getElem?_append_left hl] at ht; exact .inl ⟨hl, ht⟩
    · rw [List.getElem?_append_right (by omega)] at ht
      rcases Nat.eq_zero_or_pos (t - cs.length) with h0 | h0
      · rw [h0] at ht; simp at ht; exact .inr ⟨by omega, ht.symm⟩
      · rw [List.getElem?_eq_none (by simp; omega)] at ht; cases ht
  refine ⟨⟨by simp [hcs], fun i hi => ?_, ?_⟩, ?_⟩
  · rw [List.length_append, List.length_singleton] at hi
    by_cases hl : i < css.length
    · obtain ⟨Ai, ci, k1, k2⟩ := h2.2.1 i hl
      have eg : gc (css ++ [xs]) i = gc css i := by simp [gc, List.getElem?_append_left hl]
      rw [eg]
      refine ⟨Ai, ci, by rw [List.getElem?_append_left (by omega)]; exact k1, (k2.below hb12).grown hg ?_⟩
      by_cases hrb : (Value.slice Ai (gc css i).length ci).ownBlock = none
      · exact .inl hrb
      · refine .inr fun he => ?_
        obtain ⟨g, hgr⟩ := Option.ne_none_iff_exists'.1 hrb
        exact h3 i _ g k1 hgr (by rw [← he]; exact hgr)
    · obtain rfl : i = css.length := by omega
      have eg : gc (css ++ [xs]) css.length = xs := by simp [gc]
      rw [eg]
      obtain ⟨A, c, hv⟩ := hr3.form
      refine ⟨A, c, by rw [List.getElem?_append_right (by omega), hcs, Nat.sub_self, hv]; rfl, by rw [← hv]; exact hr3.le hlo⟩
  · intro i j u u' g hi hj hu hu'
    rcases bound hi with ⟨a1, a2⟩ | ⟨a1, a2⟩ <;> rcases bound hj with ⟨b1, b2⟩ | ⟨b1, b2⟩
    · exact h2.2.2 i j u u' g a2 b2 hu hu'
    · subst b2
      have := hold i u g a2 hu
      have := (hrlt g hu').1
      omega
    · subst a2
      have := hold j u' g b2 hu'
      have := (hrlt g hu).1
      omega
    · omega
  · intro i u g hi hu hv
    have hu2 : g < w2.heap.size ∧ v.ownBlock ≠ some g := by
      rcases bound hi with ⟨a1, a2⟩ | ⟨a1, a2⟩
      · exact ⟨by have := hold i u g a2 hu; have := hb12.size; omega, h3 i u g a2 hu⟩
      · subst a2
        refine ⟨by have := (hrlt g hu).2; omega, fun he => ?_⟩
        have := hvlt g he
        have := (hrlt g hu).1
        omega
    rcases hp with hp | hp
    · exact hu2.2 (by rw [← hp]; exact hv)
    · rw [hp] at hv
      injection hv with hv
      omega

theorem ownsK_at {w : World} {base n c k : Nat} {E : TypeId} {A : Option Addr} {cs : List Value} (h : w.ownsRow base E k (.slice A n c) n cs) (hn : 0 < n) :
    ∃ g, A = some ⟨g, 0, none⟩ ∧ base ≤ g ∧ g < w.heap.size ∧ (∀ i, i < n * k → w.cell? ⟨g, i, none⟩ = cs[i]?) ∧ ∀ i, w.frozen? ⟨g, i, none⟩ = false := by
  rcases h.2 with ⟨hv, h0⟩ | ⟨g, cap, cur, hv, hb, hh, hnc, _⟩
  · omega
  · injection hv with hA hn' hc
    subst hA hc
    have hlt := h.lt g rfl
    exact ⟨g, rfl, hb, hlt.2, fun i hi => h.cellAt i hi, fun i => h.frozenAt i⟩
theorem ownsK_cap {w : World} {base n c k : Nat} {E : TypeId} {A : Option Addr} {cs : List Value} (h : w.ownsRow base E k (.slice A n c) n cs) : n ≤ c ∧ c ≤ maxLen := by
  rcases h.2 with ⟨hv, h0⟩ | ⟨g, cap, cur, hv, hb, hh, hnc, hcm, _⟩
  · injection hv with _ h2 h3
    subst h3
    exact ⟨by omega, by unfold maxLen; omega⟩
  · injection hv with hA hn' hc
    subst hc
    exact ⟨hnc, hcm⟩
/-- v is a new slice of n nodes with the cells cs; the rows of numbers are new, apart, and hold css. -/
structure FrN (w : World) (lo : Nat) (v : Value) (n : Nat) (cs rows : List Value) (css : List (List Value)) : Prop where
  own : w.ownsRow lo 40 2 v n cs
  frc : FrC w lo 3 rows css
  sep : ∀ (i : Nat) (u : Value) (g : Nat), rows[i]? = some u → u.ownBlock = some g → v.ownBlock ≠ some g
theorem FrN.below {w w' : World} {lo n : Nat} {v : Value} {cs rows : List Value} {css : List (List Value)} (h : FrN w lo v n cs rows css) (hb : Below w.heap.size w w') : FrN w' lo v n cs rows css :=
  ⟨ownsK_below h.own hb, h.frc.keep fun _ _ _ _ k => k.below hb, h.sep⟩
theorem FrN.le {w : World} {lo lo' n : Nat} {v : Value} {cs rows : List Value} {css : List (List Value)} (h : FrN w lo v n cs rows css) (hl : lo' ≤ lo) : FrN w lo' v n cs rows css :=
  ⟨ownsK_le h.own hl, ⟨h.frc.1, fun i hi => by obtain ⟨Ai, ci, k1, k2⟩ := h.frc.2.1 i hi; exact ⟨Ai, ci, k1, k2.le hl⟩, h.frc.2.2⟩, h.sep⟩
/-- An older block is written. -/
theorem FrN.kept {w w' : World} {lo n : Nat} {v : Value} {cs rows : List Value} {css : List (List Value)} {row : Option Nat} (h : FrN w lo v n cs rows css) (hg : w.grownBy w' row) (hr : ∀ g, row = some g → g < lo) : FrN w' lo v n cs rows css := by
  have hn : ∀ {E : TypeId} {k m : Nat} {u : Value} {xs : List Value}, w.ownsRow lo E k u m xs → u.ownBlock = none ∨ u.ownBlock ≠ row := fun {E k m u xs} hu => by
    by_cases e : u.ownBlock = none
    · exact .inl e
    · refine .inr fun e2 => ?_
      obtain ⟨g, hgu⟩ := Option.ne_none_iff_exists'.1 e
      have h1 := (hu.lt g hgu).1
      have h2 := hr g (by rw [← e2]; exact hgu)
      omega
  exact ⟨World.ownsRow.kept h.own hg (hn h.own), h.frc.keep fun _ _ _ _ k => k.grown hg (hn k), h.sep⟩
theorem neTK {w : World} {b b' k k' n n' : Nat} {E E' : TypeId} {v v' : Value} {cs cs' : List Value} (h : w.ownsRow b E k v n cs) (h' : w.ownsRow b' E' k' v' n' cs') (hE : E ≠ E') : v.ownBlock = none ∨ v.ownBlock ≠ v'.ownBlock := by
  rcases h.2 with ⟨hv, _⟩ | ⟨g, cap, cur, hv, _, hg, _⟩
  · left; rw [hv]; rfl
  · rcases h'.2 with ⟨hv', _⟩ | ⟨g', cap', cur', hv', _, hg', _⟩
    · right; rw [hv, hv']; exact fun e => by cases e
    · right
      rw [hv, hv']
      intro e
      have e : g = g' := by injection e
      subst e
      rw [hg] at hg'
      injection hg' with hg'
      injection hg' with _ h2 _
      exact hE h2
/-- A row of another type is written. -/
theorem FrN.keptE {w w' : World} {lo n b k m : Nat} {E : TypeId} {v vg : Value} {cs rows ex : List Value} {css : List (List Value)} (h : FrN w lo v n cs rows css) (hv : w.ownsRow b E k vg m ex) (hE1 : 40 ≠ E) (hE2 : 3 ≠ E) (hg : w.grownBy w' vg.ownBlock) : FrN w' lo v n cs rows css :=
  ⟨World.ownsRow.kept h.own hg (neTK h.own hv hE1), h.frc.keep fun _ _ _ _ k => k.grown hg (neTK k hv hE2), h.sep⟩
/-- A row of numbers more. -/
theorem FrN.add {w w1 : World} {lo n : Nat} {v r : Value} {cs rows : List Value} {css : List (List Value)} {xs : List Value} (h : FrN w lo v n cs rows css) (hlo : lo ≤ w.heap.size) (hb1 : Below w.heap.size w w1) (hr : Own w1 w.heap.size 3 r xs) : FrN w1 lo v n cs (rows ++ [r]) (css ++ [xs]) := by
  obtain ⟨k1, k2⟩ := FrC.push h.frc h.sep (fun g hg => (h.own.lt g hg).2) hlo hb1 hr (Below.refl _ _) (⟨rfl, rfl, rfl, Nat.le_refl _, fun _ _ _ => rfl⟩ : w1.grownBy w1 v.ownBlock) (Or.inl rfl)
  exact ⟨ownsK_below h.own hb1, k1, k2⟩
/-- A node more. -/
theorem FrN.grow {w w1 w2 : World} {lo n n' : Nat} {v v' : Value} {cs cs' rows : List Value} {css : List (List Value)} (h : FrN w lo v n cs rows css) (hb1 : Below w.heap.size w w1) (ho : w2.ownsRow lo 40 2 v' n' cs') (hg : w1.grownBy w2 v.ownBlock) (hp : v'.ownBlock = v.ownBlock ∨ v'.ownBlock = some w1.heap.size) : FrN w2 lo v' n' cs' rows css := by
  have h1 := h.below hb1
  have hrow : ∀ (i : Nat) (u : Value) (xs : List Value), rows[i]? = some u → Own w1 lo 3 u xs → Own w2 lo 3 u xs := fun i u xs hi hu => by
    refine hu.grown hg ?_
    by_cases e : u.ownBlock = none
    · exact .inl e
    · obtain ⟨g, hgu⟩ := Option.ne_none_iff_exists'.1 e
      exact .inr fun e2 => h.sep i u g hi hgu (by rw [← e2]; exact hgu)
  refine ⟨ho, h1.frc.keep hrow, fun i u g hi hu => ?_⟩
  rcases hp with e | e
  · rw [e]; exact h.sep i u g hi hu
  · rw [e]
    intro e2
    injection e2 with e2
    have hil : i < css.length := by
      rw [← h.frc.1]
      rcases Nat.lt_or_ge i rows.length with h' | h'
      · exact h'
      · rw [List.getElem?_eq_none h'] at hi; cases hi
    obtain ⟨Ai, ci, k1, k2⟩ := h1.frc.2.1 i hil
    rw [hi] at k1
    injection k1 with k1
    subst k1
    have := (k2.lt g hu).2
    omega
/-- One row of numbers is written on. -/
theorem FrN.mark {w w' : World} {lo n j : Nat} {v u : Value} {cs rows ys : List Value} {css : List (List Value)} (h : FrN w lo v n cs rows css) (hj : j < css.length) (hu : rows[j]? = some u) (hy : ys.length = (gc css j).length) (ho : Own w' lo 3 u ys) (hg : w.grownBy w' u.ownBlock) : FrN w' lo v n cs rows (css.set j ys) := by
  have hne : ∀ g, u.ownBlock = some g → v.ownBlock ≠ some g := fun g hg => h.sep j u g hu hg
  refine ⟨World.ownsRow.kept h.own hg ?_, ⟨by rw [List.length_set]; exact h.frc.1, fun i hi => ?_, h.frc.2.2⟩, h.sep⟩
  · by_cases e : v.ownBlock = none
    · exact .inl e
    · obtain ⟨g, hgv⟩ := Option.ne_none_iff_exists'.1 e
      exact .inr fun e2 => hne g (by rw [← e2]; exact hgv) hgv
  · rw [List.length_set] at hi
    by_cases hij : j = i
    · subst hij
      obtain ⟨Ai, ci, k1, k2⟩ := h.frc.2.1 j hj
      rw [hu] at k1
      injection k1 with k1
      have eg : gc (css.set j ys) j = ys := by simp [gc, hj]
      rw [eg, hy]
      exact ⟨Ai, ci, by rw [hu, k1], by rw [← k1]; exact ho⟩
    · obtain ⟨Ai, ci, k1, k2⟩ := h.frc.2.1 i hi
      have eg : gc (css.set j ys) i = gc css i := by simp [gc, List.getElem?_set_ne hij]
      rw [eg]
      refine ⟨Ai, ci, k1, k2.grown hg ?_⟩
      by_cases e : (Value.slice Ai (gc css i).length ci).ownBlock = none
      · exact .inl e
      · obtain ⟨g, hgi⟩ := Option.ne_none_iff_exists'.1 e
        exact .inr fun e2 => hij (h.frc.2.2 j i u _ g hu k1 (by rw [← e2]; exact hgi) hgi)
/-- A node's two rows. -/
theorem FrN.node {w : World} {lo n : Nat} {v : Value} {cs : List Value} {xss : List (List Int)} (h : FrN w lo v n cs cs (xss.map ints)) (i : Nat) (hi : i < xss.length) :
    ∃ A c, cs[i]? = some (.slice A (gl xss i).length c) ∧ Own w lo 3 (.slice A (gl xss i).length c) (ints (gl xss i)) := by
  obtain ⟨A, c, k1, k2⟩ := h.frc.2.1 i (by rw [List.length_map]; exact hi)
  rw [gc_ints, ints_len] at k1 k2
  exact ⟨A, c, k1, k2⟩
theorem step_append_kat {P : Program} {w : World} {ops : Array Oper} {o : Oper} {a : Act} {K : Act → World → Prop} {Q : Exit → Act → World → Prop} {F : Prop} (hgd : o.guard = none) (s x : Operand) (T E : TypeId) (z : Value) (size bytes : Nat)
    (ho : o.op = .call { callee := .builtin .append, args := #[s, x], argTypes := #[T, T] }) (ht : P.underlying T = some (.slice E))
    (hinfo : (P.info? E).map (fun i => (i.zero, i.size, i.bytes)) = some (some z, size, bytes)) (hz : z.cells.size = size) (hsz : 0 < size) (hby : bytes ≤ 100)
    (base : Nat) (v : Value) (n : Nat) (cs : List Value) (hs : a.eval s = v) (hown : w.ownsRow base E size v n cs) (g : Nat) (us : Array Value) (hx : a.eval x = .slice (some ⟨g, 0, none⟩) 1 1) (hb : Blk w g E us) (hus : us.size = size) (h1 : ∀ u ∈ us.toList, u.oneCell' = true)
    (hlen : n ≤ 1000000000) (hbase : base ≤ w.heap.size)
    (h : ∀ A c w', w'.ownsRow base E size (.slice A (n + 1) c) (n + 1) (cs ++ us.toList) → Below base w w' → w.grownBy w' v.ownBlock → ((Value.slice A (n + 1) c).ownBlock = v.ownBlock ∨ (Value.slice A (n + 1) c).ownBlock = some w.heap.size) → K (a.put o.dst (.slice A (n + 1) c)) w') :
    if Region.wanted o (yielded ops a.tmps) = true then Oper.wp P o a w K Q else F := by
  rw [if_pos (show Region.wanted o (yielded ops a.tmps) = true by simp [Region.wanted, hgd])]
  obtain ⟨i0, hi, hz0, hz1, hz2⟩ := info_parts hinfo
  have hbt : (n + 1) * bytes ≤ 140737488355328 := by
    have : (n + 1) * bytes ≤ (n + 1) * 100 := Nat.mul_le_mul_left _ hby
    omega
  obtain ⟨v', w', hr, h2, h3, h4, h5⟩ := run_append_own_at (P := P) (w := w) base T o.type E i0 z size bytes ht hi hz0 hz1 hz2 hz hsz v n cs hown ⟨g, 0, none⟩ 1 1 us.toList (by simpa using hus) (fun j u hj => by rw [add_none, Nat.zero_add, hb.cell]; simpa using hj) h1 (by unfold maxLen; omega) hbt hbase
  obtain ⟨A, c, rfl⟩ := ownsK_form h2
  have hk := h A c w' h2 ((Below.refl _ _).grown h3 hbase fun k hk => (hown.lt k hk).1) h3 h5
  unfold Oper.wp
  simp [execOp, ho, resolve, invoke, builtin, hs, hx, hr, Result.andThen]
  exact hk
/-- The options of the stars below n, left and right. -/
def nodesC : Nat → List (List Int)
  | 0 => []
  | k + 1 => nodesC k ++ [rng k] ++ [rng k]
theorem nodesC_len (n : Nat) : (nodesC n).length = n * 2 := by
  induction n with
  | zero => rfl
  | succ k ih => rw [nodesC, List.length_append, List.length_append, ih]; simp; omega
theorem gl_nodesC (n i : Nat) (h : i < n) : gl (nodesC n) (i * 2) = rng i ∧ gl (nodesC n) (i * 2 + 1) = rng i := by
  induction n with
  | zero => omega
  | succ k ih =>
    have hl := nodesC_len k
    unfold gl at ih ⊢
    rw [nodesC, List.append_assoc]
    by_cases e : i < k
    · rw [List.getD_eq_getElem?_getD, List.getElem?_append_left (by omega), List.getD_eq_getElem?_getD, List.getElem?_append_left (by omega)]
      rw [← List.getD_eq_getElem?_getD, ← List.getD_eq_getElem?_getD]
      exact ih e
    · have : i = k := by omega
      subst this
      refine ⟨?_, ?_⟩
      · rw [List.getD_eq_getElem?_getD, List.getElem?_append_right (by omega), hl, Nat.sub_self]; rfl
      · rw [List.getD_eq_getElem?_getD, List.getElem?_append_right (by omega), hl, show i * 2 + 1 - i * 2 = 1 by omega]; rfl
end Go.Proofs.YtdjchjmmpjofcaaDoor
