/- Rows of trees: the laws' own helpers. Conditions: none. -/
import Derived.Test.YtbhficohgdlojaaDoorCt5
import Derived.Test.YtbhficohgdlojaaDoorMark
import Derived.Test.YtbhficohgdlojaaDoorSEq
import Derived.Test.YtbhficohgdlojaaDoorSTree
namespace Go.Proofs.YtbhficohgdlojaaDoor
open Go.RowKit
set_option linter.unusedVariables false

/-- How many marks the first j trees take. -/
def offT (ts : List (List Int × ByteArray)) : Nat → Nat
  | 0 => 0
  | j + 1 => offT ts j + (gtr' ts j).1.length + 1
theorem offT_le (ts : List (List Int × ByteArray)) {i j : Nat} (h : i ≤ j) : offT ts i ≤ offT ts j := by
  induction j with
  | zero => have : i = 0 := by omega
            subst this; exact Nat.le_refl _
  | succ j ih =>
    by_cases e : i = j + 1
    · subst e; exact Nat.le_refl _
    · have := ih (by omega)
      show _ ≤ offT ts j + _ + 1
      omega
/-- The first j trees marked, from k on. -/
def mkT (k : Nat) (ts : List (List Int × ByteArray)) : Nat → List (List Int × ByteArray)
  | 0 => ts
  | j + 1 => (mkT k ts j).set j (numRow ((k + offT ts j : Nat) : Int) (gtr' ts j).1.length, mt (k + offT ts j + (gtr' ts j).1.length))
theorem mkT_len (k : Nat) (ts : List (List Int × ByteArray)) (j : Nat) : (mkT k ts j).length = ts.length := by
  induction j with
  | zero => rfl
  | succ j ih => show ((mkT k ts j).set _ _).length = _; rw [List.length_set, ih]
theorem gtr_set (ts : List (List Int × ByteArray)) (i j : Nat) (t : List Int × ByteArray) (hj : j < ts.length) : gtr' (ts.set i t) j = if i = j then t else gtr' ts j := by
  unfold gtr'
  by_cases h : i = j
  · subst h; simp [hj]
  · simp [h, List.getElem?_set_ne h]
theorem gtr_mkT (k : Nat) (ts : List (List Int × ByteArray)) (j i : Nat) (hi : i < ts.length) : gtr' (mkT k ts j) i = if i < j then (numRow ((k + offT ts i : Nat) : Int) (gtr' ts i).1.length, mt (k + offT ts i + (gtr' ts i).1.length)) else gtr' ts i := by
  induction j with
  | zero => rw [if_neg (by omega)]; rfl
  | succ j ih =>
    show gtr' ((mkT k ts j).set j _) i = _
    rw [gtr_set _ _ _ _ (by rw [mkT_len]; exact hi), ih]
    by_cases h : j = i
    · subst h; rw [if_pos rfl, if_pos (by omega)]
    · rw [if_neg h]
      by_cases h2 : i < j
      · rw [if_pos h2, if_pos (by omega)]
      · rw [if_neg h2, if_neg (by omega)]
/-- Slice A reads as the trees of ts. -/
def RdT (w : World) (B : Nat) (A : Option Addr) (c : Nat) (ts : List (List Int × ByteArray)) : Prop :=
  ts.length ≤ c ∧ c ≤ 9223372036854775807 ∧ ∀ j, j < ts.length → ∃ b o, A = some ⟨b, o, none⟩ ∧ b < B ∧ ∀ i, i < ts.length → ∃ Ai ci,
    w.cell? ⟨b, o + i * 2, none⟩ = some (.slice Ai (gtr' ts i).1.length ci) ∧ w.cell? ⟨b, o + i * 2 + 1, none⟩ = some (.string (gtr' ts i).2) ∧ RdI w B Ai ci (gtr' ts i).1
theorem RdT.below {w w' : World} {B B' c : Nat} {A : Option Addr} {ts : List (List Int × ByteArray)} (h : RdT w B A c ts) (hb : Below B' w w') (hB : B ≤ B') : RdT w' B A c ts :=
  ⟨h.1, h.2.1, fun j hj => by
    obtain ⟨b, o, hA, hbB, hc⟩ := h.2.2 j hj
    refine ⟨b, o, hA, hbB, fun i hi => ?_⟩
    obtain ⟨Ai, ci, k1, k2, k3⟩ := hc i hi
    exact ⟨Ai, ci, (hb.cell (p := ⟨b, _, none⟩) (by show b < B'; omega)).trans k1, (hb.cell (p := ⟨b, _, none⟩) (by show b < B'; omega)).trans k2, k3.below hb hB⟩⟩
theorem gc_ts (ts : List (List Int × ByteArray)) (i : Nat) : gc (ts.map fun t => ints t.1) i = ints (gtr' ts i).1 := by
  unfold gc gtr'
  by_cases h : i < ts.length <;> simp [h, List.getD, ints]
theorem FrT.rd {w : World} {lo : Nat} {A : Option Addr} {n c : Nat} {ts : List (List Int × ByteArray)} (h : FrT w lo (.slice A n c) ts) : n = ts.length ∧ RdT w w.heap.size A c ts := by
  obtain ⟨us, h1, h2, h3⟩ := h
  have hl : us.length = ts.length := by rw [h2.1, List.length_map]
  rcases h1.2 with ⟨hv, h0⟩ | ⟨g, cap, cur, hv, hb, hg, hnc, hcm, hcs, ht⟩
  · injection hv with hA hn hc
    subst hA; subst hc
    exact ⟨by omega, by omega, by decide, fun j hj => by omega⟩
  · injection hv with hA hn hc
    subst hA; subst hc
    refine ⟨hn, hnc, by unfold maxLen at hcm; exact hcm, fun j hj => ⟨g, 0, rfl, (h1.lt g rfl).2, fun i hi => ?_⟩⟩
    have hcell := h1.cells (g := g) rfl
    obtain ⟨a1, a2⟩ := flT_at us ts hl i hi
    obtain ⟨Ai, ci, k1, k2⟩ := h2.2.1 i (by rw [List.length_map]; exact hi)
    rw [gc_ts] at k1 k2
    rw [ints_len] at k1 k2
    rw [k1] at a1
    have c1 := hcell _ _ a1
    have c2 := hcell _ _ a2
    rw [add_none] at c1 c2
    exact ⟨Ai, ci, c1, by rw [← c2, Nat.add_assoc], k2.rd⟩

theorem flT_set (us : List Value) (ts : List (List Int × ByteArray)) (h : us.length = ts.length) (i : Nat) (hi : i < ts.length) (t : List Int × ByteArray) : (flT us ts).set (i * 2 + 1) (.string t.2) = flT us (ts.set i t) := by
  induction us generalizing ts i with
  | nil => cases ts with
    | nil => simp at hi
    | cons t ts => simp at h
  | cons a us ih => cases ts with
    | nil => simp at h
    | cons b ts =>
      cases i with
      | zero => rfl
      | succ i =>
        have := ih ts (by simpa using h) i (by simpa using hi)
        have e : (flT (a :: us) (b :: ts)).set ((i + 1) * 2 + 1) (.string t.2) = a :: .string b.2 :: (flT us ts).set (i * 2 + 1) (.string t.2) := by rw [show (i + 1) * 2 + 1 = i * 2 + 1 + 1 + 1 by omega]; rfl
        rw [e, this]; rfl
/-- One tree of a row is marked: its row, then its text. -/
theorem FrT.mark {w w1 w2 : World} {lo g n c j : Nat} {u : Value} {us : List Value} {ts : List (List Int × ByteArray)} {ys : List Int} {st : ByteArray}
    (h : w.ownsRow lo 26 2 (.slice (some ⟨g, 0, none⟩) n c) ts.length (flT us ts) ∧ FrC w lo 3 us (ts.map fun t => ints t.1) ∧ ∀ (i : Nat) (u : Value) (g' : Nat), us[i]? = some u → u.ownBlock = some g' → (Value.slice (some ⟨g, 0, none⟩) n c).ownBlock ≠ some g')
    (hj : j < ts.length) (hu : us[j]? = some u) (hy : ys.length = (gtr' ts j).1.length) (ho : Own w1 lo 3 u (ints ys)) (hg : w.grownBy w1 u.ownBlock) (hb : Below w1.heap.size w1 w2) :
    FrT (w2.setCell ⟨g, j * 2 + 1, none⟩ (.string st)) lo (.slice (some ⟨g, 0, none⟩) n c) (ts.set j (ys, st)) := by
  obtain ⟨h1, h2, h3⟩ := h
  have hl : us.length = ts.length := by rw [h2.1, List.length_map]
  have hvne : (Value.slice (some ⟨g, 0, none⟩) n c).ownBlock ≠ u.ownBlock := fun he => h3 j u g hu (by rw [← he]; rfl) rfl
  have hn : n = ts.length := by obtain ⟨A, c', hv⟩ := ownsK_form h1; injection hv
  subst hn
  have o2 := ownsK_below (World.ownsRow.kept h1 hg (.inr hvne)) hb
  have o3 := (World.ownsRow.stored o2 (j * 2 + 1) (.string st)).1
  rw [flT_set us ts hl j hj (ys, st)] at o3
  have hfar : ∀ {i : Nat} {x : Value} {zs : List Value}, us[i]? = some x → Own w2 lo 3 x zs → Own (w2.setCell ⟨g, j * 2 + 1, none⟩ (.string st)) lo 3 x zs := fun hx hz => hz.far _ _ (fun he => h3 _ _ g hx he rfl)
  refine ⟨us, by rw [List.length_set]; exact o3, ⟨by rw [List.map_set, List.length_set]; exact h2.1, fun i hi => ?_, h2.2.2⟩, h3⟩
  rw [List.length_map, List.length_set] at hi
  rw [gc_ts, gtr_set _ _ _ _ hi]
  by_cases hij : j = i
  · subst hij
    obtain ⟨Ai, ci, k1, k2⟩ := h2.2.1 j (by rw [List.length_map]; exact hj)
    rw [hu] at k1
    injection k1 with k1
    rw [if_pos rfl, ints_len, hy]
    rw [gc_ts, ints_len] at k1
    refine ⟨Ai, ci, by rw [hu, k1], ?_⟩
    rw [← k1]
    exact hfar hu (ho.below hb)
  · rw [if_neg hij]
    obtain ⟨Ai, ci, k1, k2⟩ := h2.2.1 i (by rw [List.length_map]; exact hi)
    rw [gc_ts] at k1 k2
    refine ⟨Ai, ci, k1, hfar k1 ((k2.grown hg ?_).below hb)⟩
    by_cases hrb : (Value.slice Ai (ints (gtr' ts i).1).length ci).ownBlock = none
    · exact .inl hrb
    · refine .inr fun he => ?_
      obtain ⟨g', hgr⟩ := Option.ne_none_iff_exists'.1 hrb
      exact hij (h2.2.2 j i u _ g' hu k1 (by rw [← he]; exact hgr) hgr)

end Go.Proofs.YtbhficohgdlojaaDoor
