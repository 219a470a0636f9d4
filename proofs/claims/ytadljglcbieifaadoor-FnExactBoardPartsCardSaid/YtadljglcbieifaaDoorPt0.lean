/- The parts of a board: the plain function; new boards in a row. Conditions: none. -/
import Derived.Test.YtadljglcbieifaaDoorOnly
import Derived.Test.YtadljglcbieifaaDoorTrimS
namespace Go.Proofs.YtadljglcbieifaaDoor
open Go.RowKit
set_option linter.unusedVariables false

/-- One cell: a part begins here or not. -/
def stepP (ss : List ByteArray) (st : List (List Bool) × List (List ByteArray)) (i k : Nat) : List (List Bool) × List (List ByteArray) :=
  if frI ss i k = true ∧ getM st.1 i k = false then (flood (frI ss) st.1 i k, st.2 ++ [trimL (onlyL (flood (frI ss) (noM ss.length (gs ss 0).size) i k))]) else st
def scanPC (ss : List ByteArray) (i : Nat) (st : List (List Bool) × List (List ByteArray)) : Nat → List (List Bool) × List (List ByteArray)
  | 0 => st
  | k + 1 => stepP ss (scanPC ss i st k) i k
def scanPR (ss : List ByteArray) : Nat → List (List Bool) × List (List ByteArray)
  | 0 => (noM ss.length (gs ss 0).size, [])
  | i + 1 => scanPC ss i (scanPR ss i) (gs ss 0).size
def partsB (ss : List ByteArray) : List (List ByteArray) := (scanPR ss ss.length).2

/-- What the scan keeps: a grid, closed, of free cells; few parts, each a board. -/
structure OkP (ss : List ByteArray) (n : Nat) (st : List (List Bool) × List (List ByteArray)) : Prop where
  grid : Grid ss.length (gs ss 0).size st.1
  closed : Closed (frI ss) st.1
  few : st.2.length ≤ n
  sub : ∀ i k, getM st.1 i k = true → frI ss i k = true
theorem noM_ok (ss : List ByteArray) : OkP ss 0 (noM ss.length (gs ss 0).size, []) :=
  ⟨noM_grid _ _, noM_closed _ _ _, Nat.le_refl _, fun i k h => by rw [noM_get] at h; cases h⟩
theorem flood_sub {ss : List ByteArray} {M : List (List Bool)} (hM : Grid ss.length (gs ss 0).size M) (hc : Closed (frI ss) M) (hs : ∀ i k, getM M i k = true → frI ss i k = true) (a b : Int) (i k : Nat) (h : getM (flood (frI ss) M a b) i k = true) : frI ss i k = true := by
  have := (flood_iff (inR_frI (ss := ss)) hM hc a b ((i : Int), (k : Int))).1 ⟨by omega, by omega, by simpa using h⟩
  rcases this with h' | h'
  · exact hs i k (by have := h'.2.2; simpa using this)
  · exact h'.free
theorem okP_step {ss : List ByteArray} {n : Nat} {st : List (List Bool) × List (List ByteArray)} (h : OkP ss n st) (i k : Nat) : OkP ss (n + 1) (stepP ss st i k) := by
  unfold stepP
  split
  · refine ⟨(flood_grid (inR_frI (ss := ss)) i k h.grid).1, flood_closed (inR_frI (ss := ss)) h.grid h.closed i k, by have := h.few; simp; omega, fun a b hab => flood_sub h.grid h.closed h.sub i k a b hab⟩
  · exact ⟨h.grid, h.closed, by have := h.few; omega, h.sub⟩
theorem okP_scanC {ss : List ByteArray} {n : Nat} {st : List (List Bool) × List (List ByteArray)} (h : OkP ss n st) (i k : Nat) : OkP ss (n + k) (scanPC ss i st k) := by
  induction k with
  | zero => exact h
  | succ k ih => exact okP_step ih i k
theorem okP_scanR (ss : List ByteArray) (i : Nat) : OkP ss (i * (gs ss 0).size) (scanPR ss i) := by
  induction i with
  | zero => rw [Nat.zero_mul]; exact noM_ok ss
  | succ i ih => rw [Nat.succ_mul]; exact okP_scanC ih i _
theorem boardP_only {R C : Nat} {M : List (List Bool)} (hM : Grid R C M) (hR : 1 ≤ R ∧ R ≤ 8) (hC : 1 ≤ C ∧ C ≤ 8) : boardP (onlyL M) := by
  have hl : (onlyL M).length = R := by rw [onlyL, List.length_map, hM.1]
  have hrow : ∀ i, i < R → gs (onlyL M) i = btext (gb M i) := fun i hi => by
    have : i < M.length := by rw [hM.1]; exact hi
    rw [gs_lt (by rw [hl]; exact hi)]
    simp [onlyL, gb_lt this]
  have hsz : ∀ i, i < R → (gs (onlyL M) i).size = C := fun i hi => by
    rw [hrow i hi, btext, str_size, List.length_map]; exact hM.2 i hi
  refine ⟨by rw [hl]; exact hR, by rw [hsz 0 (by omega)]; exact hC, fun i hi => ?_⟩
  rw [hl] at hi
  refine ⟨by rw [hsz i hi, hsz 0 (by omega)], ?_⟩
  rw [hrow i hi]
  unfold allIn btext
  rw [str_data, List.all_eq_true]
  intro x hx
  rw [List.mem_map] at hx
  obtain ⟨y, _, rfl⟩ := hx
  cases y <;> decide

/-- A row that is newer than all is put behind; its base is its own. -/
theorem push2 {w w1 w2 w3 : World} {lo lo2 : Nat} {E e : TypeId} {v v' r : Value} {cs : List Value} {css : List (List Value)} {xs : List Value} (h : Own w lo E v cs ∧ FrC w lo2 e cs css ∧ ∀ (i : Nat) (u : Value) (g : Nat), cs[i]? = some u → u.ownBlock = some g → v.ownBlock ≠ some g) (hlo : lo2 ≤ w.heap.size)
    (hb1 : Below w.heap.size w w1) (hr : Own w1 w.heap.size e r xs) (hb2 : Below w1.heap.size w1 w2)
    (ho : Own w3 lo E v' (cs ++ [r])) (hg : w2.grownBy w3 v.ownBlock) (hp : v'.ownBlock = v.ownBlock ∨ v'.ownBlock = some w2.heap.size) :
    Own w3 lo E v' (cs ++ [r]) ∧ FrC w3 lo2 e (cs ++ [r]) (css ++ [xs]) ∧ ∀ (i : Nat) (u : Value) (g : Nat), (cs ++ [r])[i]? = some u → u.ownBlock = some g → v'.ownBlock ≠ some g := by
  obtain ⟨h1, h2, h3⟩ := h
  have hb12 : Below w.heap.size w w2 := hb1.trans (hb2.mono hb1.size)
  have hcs := h2.1
  have hvlt : ∀ g, v.ownBlock = some g → g < w.heap.size := fun g hgv => (h1.lt g hgv).2
  have hrlt : ∀ g, r.ownBlock = some g → w.heap.size ≤ g ∧ g < w1.heap.size := fun g hgr => hr.lt g hgr
  have hz12 := hb2.size
  have hold : ∀ (i : Nat) (u : Value) (g : Nat), cs[i]? = some u → u.ownBlock = some g → g < w.heap.size := by
    intro i u g hi hu
    have hil : i < css.length := by
      rw [← hcs]
      rcases Nat.lt_or_ge i cs.length with h' | h'
      · exact h'
      · rw [List.getElem?_eq_none h'] at hi; cases hi
    obtain ⟨Ai, ci, k1, k2⟩ := h2.2.1 i hil
    rw [k1] at hi
    injection hi with hi
    subst hi
    exact (k2.lt g hu).2
  have hr2 : Own w2 w.heap.size e r xs := hr.below hb2
  have hr3 : Own w3 w.heap.size e r xs := by
    refine hr2.grown hg ?_
    by_cases hrb : r.ownBlock = none
    · exact .inl hrb
    · refine .inr fun he => ?_
      obtain ⟨g, hgr⟩ := Option.ne_none_iff_exists'.1 hrb
      have e1 := (hrlt g hgr).1
      have e2 := hvlt g (by rw [← he]; exact hgr)
      omega
  refine ⟨ho, ⟨by simp [hcs], fun i hi => ?_, ?_⟩, ?_⟩
  · rw [List.length_append, List.length_singleton] at hi
    by_cases hl : i < css.length
    · obtain ⟨Ai, ci, k1, k2⟩ := h2.2.1 i hl
      have eg : gc (css ++ [xs]) i = gc css i := by simp [gc, List.getElem?_append_left hl]
      rw [eg]
      refine ⟨Ai, ci, by rw [List.getElem?_append_left (by omega)]; exact k1, (k2.below hb12).grown hg ?_⟩
      by_cases hrb : (Value.slice Ai (gc css i).length ci).ownBlock = none
      · exact .inl hrb
      · refine .inr fun he => ?_
        obtain ⟨g, hgr⟩ := Option.ne_none_iff_exists'.1 hrb
        exact h3 i _ g k1 hgr (by rw [← he]; exact hgr)
    · obtain rfl : i = css.length := by omega
      have eg : gc (css ++ [xs]) css.length = xs := by simp [gc]
      rw [eg]
      obtain ⟨A, c, hv⟩ := hr3.form
      refine ⟨A, c, by rw [List.getElem?_append_right (by omega), hcs, Nat.sub_self, hv]; rfl, by rw [← hv]; exact hr3.le hlo⟩
  · intro i j u u' g hi hj hu hu'
    have bound : ∀ {t : Nat} {x : Value}, (cs ++ [r])[t]? = some x → (t < cs.length ∧ cs[t]? = some x) ∨ (t = cs.length ∧ x = r) := by
      intro t x ht
      by_cases hl : t < cs.length
      · rw [List.getElem?_append_left hl] at ht; exact .inl ⟨hl, ht⟩
      · rw [List.getElem?_append_right (by omega)] at ht
        rcases Nat.eq_zero_or_pos (t - cs.length) with h0 | h0
        · rw [h0] at ht; simp at ht; exact .inr ⟨by omega, ht.symm⟩
        · rw [List.getElem?_eq_none (by simp; omega)] at ht; cases ht
    rcases bound hi with ⟨a1, a2⟩ | ⟨a1, a2⟩ <;> rcases bound hj with ⟨b1, b2⟩ | ⟨b1, b2⟩
    · exact h2.2.2 i j u u' g a2 b2 hu hu'
    · subst b2
      have := hold i u g a2 hu
      have := (hrlt g hu').1
      omega
    · subst a2
      have := hold j u' g b2 hu'
      have := (hrlt g hu).1
      omega
    · omega
  · intro i u g hi hu hv
    have hu2 : g < w2.heap.size ∧ v.ownBlock ≠ some g := by
      by_cases hl : i < cs.length
      · rw [List.getElem?_append_left hl] at hi
        exact ⟨by have := hold i u g hi hu; have := hb12.size; omega, h3 i u g hi hu⟩
      · rw [List.getElem?_append_right (by omega)] at hi
        rcases Nat.eq_zero_or_pos (i - cs.length) with h0 | h0
        · rw [h0] at hi; simp at hi; subst hi
          refine ⟨by have := (hrlt g hu).2; omega, fun he => ?_⟩
          have := hvlt g he
          have := (hrlt g hu).1
          omega
        · rw [List.getElem?_eq_none (by simp; omega)] at hi; cases hi
    rcases hp with hp | hp
    · exact hu2.2 (by rw [← hp]; exact hv)
    · rw [hp] at hv
      injection hv with hv
      omega

theorem infoBoard : (Tryd.prog.info? 60).map (fun i => (i.zero, i.size, i.bytes)) = some (some (.agg #[.slice none 0 0]), 1, 24) := by kernel_rfl
/-- New boards in a row; the row's block is below L or from S on, the boards' rows lie from S on. -/
def OutS (w : World) (lo L S : Nat) (v : Value) (outs : List (List ByteArray)) : Prop :=
  ∃ os, Own w lo 60 v os ∧ FrC w S 9 os (outs.map scells) ∧ (∀ (i : Nat) (u : Value) (g : Nat), os[i]? = some u → u.ownBlock = some g → v.ownBlock ≠ some g) ∧ ∀ g, v.ownBlock = some g → g < L ∨ S ≤ g
theorem OutS.below {w w' : World} {lo L S : Nat} {v : Value} {outs : List (List ByteArray)} (h : OutS w lo L S v outs) (hb : Below w.heap.size w w') : OutS w' lo L S v outs := by
  obtain ⟨os, h1, h2, h3, h4⟩ := h
  exact ⟨os, h1.below hb, h2.keep fun _ _ _ _ k => k.below hb, h3, h4⟩
theorem Own.rows {w w' : World} {base : Nat} {E : TypeId} {v : Value} {xs cs : List Value} (h : Own w base E v xs) (hr : Rows w w' cs) (hn : ∀ k, v.ownBlock = some k → ∀ (i : Nat) (u : Value), cs[i]? = some u → u.ownBlock ≠ some k) : Own w' base E v xs := by
  have hl := h.lt
  obtain ⟨h1, h2⟩ := h
  refine ⟨h1, ?_⟩
  rcases h2 with h2 | ⟨k, cap, cur, hv, hgb, hh, r⟩
  · exact Or.inl h2
  · have hk := hl k (by rw [hv]; rfl)
    exact Or.inr ⟨k, cap, cur, hv, hgb, (hr.2.2.2.2 k hk.2 (hn k (by rw [hv]; rfl))).trans hh, r⟩
theorem OutS.rows {w w' : World} {lo L S : Nat} {v : Value} {outs : List (List ByteArray)} {cs : List Value} (h : OutS w lo L S v outs) (hr : Rows w w' cs) (hn : ∀ (i : Nat) (u : Value) (k : Nat), cs[i]? = some u → u.ownBlock = some k → L ≤ k ∧ k < S) : OutS w' lo L S v outs := by
  obtain ⟨os, h1, h2, h3, h4⟩ := h
  refine ⟨os, h1.rows hr fun k hk i u hi hu => ?_, h2.keep fun i u xs hi k => k.rows hr fun g hg i' u' hi' hu' => ?_, h3, h4⟩
  · have a := hn i u k hi hu
    have b := h4 k hk
    omega
  · have a := hn i' u' g hi' hu'
    have b := (k.lt g hg).1
    omega
theorem GrC.other {w w' : World} {lo : Nat} {v : Value} {cs ds : List Value} {M : List (List Bool)} (h : GrC w lo v cs M) (hr : Rows w w' ds) (hn : ∀ (i : Nat) (u : Value) (k : Nat), ds[i]? = some u → u.ownBlock = some k → k < lo) : GrC w' lo v cs M := by
  obtain ⟨h1, h2, h3⟩ := h
  refine ⟨h1.rows hr fun k hk i u hi hu => ?_, h2.keep fun i u xs hi k => k.rows hr fun g hg i' u' hi' hu' => ?_, h3⟩
  · have a := hn i u k hi hu
    have b := (h1.lt k hk).1
    omega
  · have a := hn i' u' g hi' hu'
    have b := (k.lt g hg).1
    omega
theorem Rows.below {B : Nat} {a b c : World} {cs : List Value} (h : Below B a b) (hr : Rows b c cs) (hB : B ≤ b.heap.size) (hn : ∀ (i : Nat) (u : Value) (k : Nat), cs[i]? = some u → u.ownBlock = some k → B ≤ k) : Below B a c :=
  h.trans ⟨hr.1, hr.2.1, hr.2.2.1, hr.2.2.2.1, fun k hk => hr.2.2.2.2 k (by omega) fun i u hi hu => by have := hn i u k hi hu; omega⟩
theorem ItAt.rows {w w' : World} {g k : Nat} {s : ByteArray} {cs : List Value} (h : ItAt w g s k) (hr : Rows w w' cs) (hn : ∀ (i : Nat) (u : Value), cs[i]? = some u → u.ownBlock ≠ some g) : ItAt w' g s k := (hr.2.2.2.2 g h.lt hn).trans h
theorem Own.notIt {w : World} {base : Nat} {E : TypeId} {v : Value} {xs : List Value} {g k : Nat} {s : ByteArray} (h : Own w base E v xs) (hi : ItAt w g s k) : v.ownBlock ≠ some g := by
  intro e
  rcases h.2 with ⟨h2, _⟩ | ⟨k', cap, cur, hv, hgb, hh, r⟩
  · rw [h2] at e; simp [Value.ownBlock] at e
  · rw [hv] at e
    have e' : k' = g := by injection e
    subst e'
    unfold ItAt at hi
    rw [hi] at hh
    cases hh
theorem Own.stepIt {w w' : World} {base : Nat} {E : TypeId} {v : Value} {xs : List Value} {g k : Nat} {s : ByteArray} (h : Own w base E v xs) (hi : ItAt w g s k) (hg : w.grownBy w' (some g)) : Own w' base E v xs := h.grown hg (.inr (h.notIt hi))
theorem OutS.stepIt {w w' : World} {lo L S : Nat} {v : Value} {outs : List (List ByteArray)} {g k : Nat} {s : ByteArray} (h : OutS w lo L S v outs) (hi : ItAt w g s k) (hg : w.grownBy w' (some g)) : OutS w' lo L S v outs := by
  obtain ⟨os, h1, h2, h3, h4⟩ := h
  exact ⟨os, h1.stepIt hi hg, h2.keep fun _ _ _ _ k => k.stepIt hi hg, h3, h4⟩
theorem GrC.stepIt {w w' : World} {lo : Nat} {v : Value} {cs : List Value} {M : List (List Bool)} {g k : Nat} {s : ByteArray} (h : GrC w lo v cs M) (hi : ItAt w g s k) (hg : w.grownBy w' (some g)) : GrC w' lo v cs M :=
  ⟨h.1.stepIt hi hg, h.2.1.keep fun _ _ _ _ k => k.stepIt hi hg, h.2.2⟩
theorem OutS.notIt {w : World} {lo L S : Nat} {v : Value} {outs : List (List ByteArray)} {g k : Nat} {s : ByteArray} (h : OutS w lo L S v outs) (hi : ItAt w g s k) : v.ownBlock ≠ some g := by
  obtain ⟨os, h1, _⟩ := h
  exact h1.notIt hi
theorem OutS.frR {w : World} {lo L S lo' : Nat} {v : Value} {outs : List (List ByteArray)} (h : OutS w lo L S v outs) (h1 : lo' ≤ lo) (h2 : lo' ≤ S) : FrR w lo' 60 9 v (outs.map scells) := by
  obtain ⟨os, k1, k2, k3, k4⟩ := h
  exact ⟨os, k1.le h1, ⟨k2.1, fun i hi => by obtain ⟨Ai, ci, m1, m2⟩ := k2.2.1 i hi; exact ⟨Ai, ci, m1, m2.le h2⟩, k2.2.2⟩, k3⟩
theorem GrC.grownOut {w w' : World} {lo S : Nat} {v : Value} {cs : List Value} {M : List (List Bool)} {row : Option Nat} (h : GrC w lo v cs M) (hg : w.grownBy w' row) (hr : ∀ g, row = some g → g < lo ∨ S ≤ g) (hv : ∀ g, v.ownBlock = some g → g < S) (hn : ∀ (i : Nat) (u : Value) (k : Nat), cs[i]? = some u → u.ownBlock = some k → k < S) : GrC w' lo v cs M := by
  obtain ⟨h1, h2, h3⟩ := h
  refine ⟨h1.grown hg ?_, h2.keep fun i u xs hi k => k.grown hg ?_, h3⟩
  · by_cases hb : v.ownBlock = none
    · exact .inl hb
    · obtain ⟨g, hgv⟩ := Option.ne_none_iff_exists'.1 hb
      refine .inr fun e => ?_
      have := hr g (by rw [← e]; exact hgv)
      have := (h1.lt g hgv).1
      have := hv g hgv
      omega
  · by_cases hb : u.ownBlock = none
    · exact .inl hb
    · obtain ⟨g, hgv⟩ := Option.ne_none_iff_exists'.1 hb
      refine .inr fun e => ?_
      have := hr g (by rw [← e]; exact hgv)
      have := (k.lt g hgv).1
      have := hn i u g hi hgv
      omega
theorem trimP_le {M : List (List Bool)} {R C : Nat} (hM : Grid R C M) (hR : 1 ≤ R ∧ R ≤ 8) (hC : 1 ≤ C ∧ C ≤ 8) : (trimL (onlyL M)).length ≤ 8 := by
  have h := boardP_only hM hR hC
  have h1 := trimL_le (onlyL M) h.1.1
  have h2 := h.1.2
  omega
end Go.Proofs.YtadljglcbieifaaDoor
