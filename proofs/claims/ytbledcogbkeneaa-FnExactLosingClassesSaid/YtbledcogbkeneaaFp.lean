/- Rows with what they hold, as pairs: fresh rows, choices of rows, worlds that grow. Conditions: none. -/
import Derived.Test.YtbledcogbkeneaaFresh
import Derived.Test.YtbledcogbkeneaaMoves2
import Derived.Sort.Grow
namespace Go.Proofs.Ytbledcogbkeneaa
open Go.RowKit
set_option linter.unusedVariables false

/-- The world has grown: nothing that lay in it has turned, and no draw is taken back. -/
def Gr (w w' : World) : Prop := Below w.heap.size w w' ∧ w.drawn ≤ w'.drawn
theorem Gr.refl (w : World) : Gr w w := ⟨Below.refl _ _, Nat.le_refl _⟩
theorem Gr.trans {a b c : World} (h : Gr a b) (k : Gr b c) : Gr a c := ⟨gtr h.1 k.1, Nat.le_trans h.2 k.2⟩
theorem Gr.drew {w w' : World} (h : Gr w w') : Gr w w'.drew := ⟨h.1.drew, Nat.le_succ_of_le h.2⟩
theorem Gr.drewN {w w' : World} (h : Gr w w') (n : Nat) : Gr w (w'.drewN n) := ⟨bdrew h.1 n, Nat.le_trans h.2 (Nat.le_add_right _ _)⟩
theorem Gr.alloc {w w' : World} (h : Gr w w') (o : Obj) : Gr w (w'.alloc o) := ⟨h.1.alloc h.1.size o, h.2⟩
theorem Gr.setCell {w w' : World} (h : Gr w w') {p : Addr} (hp : w.heap.size ≤ p.block) (u : Value) : Gr w (w'.setCell p u) := by
  refine ⟨h.1.setCell hp u, ?_⟩
  have : (w'.setCell p u).drawn = w'.drawn := rfl
  rw [this]
  exact h.2
theorem Gr.form {w w' : World} (h : Gr w w') : ∃ q os, w' = Go.Sort.grow (w.drewN q) os := by
  obtain ⟨⟨h1, h2, h3, h4, h5⟩, h6⟩ := h
  refine ⟨w'.drawn - w.drawn, w'.heap.extract w.heap.size w'.heap.size, ?_⟩
  obtain ⟨hp, tp, dr, o, ou⟩ := w'
  obtain ⟨hp', tp', dr', o', ou'⟩ := w
  simp only at h1 h2 h3 h4 h5 h6
  subst h1 h2 h3
  have e1 : hp = hp' ++ hp.extract hp'.size hp.size := by
    apply Array.ext_getElem?
    intro i
    rcases Nat.lt_or_ge i hp'.size with hi | hi
    · rw [Array.getElem?_append_left hi, h5 i hi]
    · rw [Array.getElem?_append_right hi, Array.getElem?_extract]
      split
      · congr 1; omega
      · rw [Array.getElem?_eq_none (by omega)]
  have e2 : dr = dr' + (dr - dr') := by omega
  show World.mk hp tp dr o ou = World.mk (hp' ++ hp.extract hp'.size hp.size) tp (dr' + (dr - dr')) o ou
  rw [← e1, ← e2]

/-- A row is read, and it doesn't lie in block g. -/
def RdX (w : World) (g : Nat) (v : Value) (xs : List Int) : Prop := ∃ A c, v = .slice A xs.length c ∧ RdI w w.heap.size A c xs ∧ ∀ a, A = some a → a.block ≠ g
theorem RdI.keepX {w w' : World} {g B c : Nat} {A : Option Addr} {xs : List Int} (h : RdI w B A c xs) (hg : ∀ a, A = some a → a.block ≠ g) (hk : ∀ k, k < B → k ≠ g → w'.heap[k]? = w.heap[k]?) : RdI w' B A c xs := by
  refine ⟨h.1, h.2.1, h.2.2.1, fun j hj => ?_⟩
  obtain ⟨b, o, e, hb, hc⟩ := h.2.2.2 j hj
  have hne := hg _ e
  exact ⟨b, o, e, hb, fun i v hi => (World.cell?_of_block (a := ⟨b, o + i, none⟩) (hk b hb hne)).trans (hc i v hi)⟩
theorem RdX.grown {w w' : World} {g : Nat} {v : Value} {xs : List Int} (h : RdX w g v xs) (hg : w.grownBy w' (some g)) : RdX w' g v xs := by
  obtain ⟨A, c, e, hr, hn⟩ := h
  exact ⟨A, c, e, (RdI.keepX hr hn fun k hk hkg => hg.block k hk (by simpa using hkg)).more hg.size, hn⟩
theorem RdX.oneCell {w : World} {g : Nat} {v : Value} {xs : List Int} (h : RdX w g v xs) : v.oneCell' = true := by
  obtain ⟨A, c, rfl, _⟩ := h
  rfl

/-- New rows, by pairs of their headers and what they hold. -/
def FrP (w : World) (lo : Nat) (L : List (Value × List Int)) : Prop :=
  (∀ x ∈ L, (∃ A c, x.1 = .slice A x.2.length c) ∧ Own w lo 3 x.1 (ints x.2)) ∧ L.Pairwise fun x y => ∀ g, x.1.ownBlock = some g → y.1.ownBlock ≠ some g
/-- The list is some of the other's members, in whatever order. -/
def SubP {α : Type} (L' L : List α) : Prop := ∃ M : List α, M.Perm L ∧ L'.Sublist M
theorem SubP.refl {α : Type} (L : List α) : SubP L L := ⟨L, List.Perm.refl _, List.Sublist.refl _⟩
theorem SubP.mem {α : Type} {L' L : List α} (h : SubP L' L) {x : α} (hx : x ∈ L') : x ∈ L := by
  obtain ⟨M, h1, h2⟩ := h
  exact h1.mem_iff.1 (h2.subset hx)
theorem SubP.len {α : Type} {L' L : List α} (h : SubP L' L) : L'.length ≤ L.length := by
  obtain ⟨M, h1, h2⟩ := h
  rw [← h1.length_eq]
  exact h2.length_le
theorem FrP.sub {w : World} {lo : Nat} {L L' : List (Value × List Int)} (h : FrP w lo L) (hs : SubP L' L) : FrP w lo L' := by
  refine ⟨fun x hx => h.1 x (hs.mem hx), ?_⟩
  obtain ⟨M, h1, h2⟩ := hs
  refine List.Pairwise.sublist h2 ?_
  exact (h1.pairwise_iff (fun {x y} hxy g hy hx => hxy g hx hy)).2 h.2
theorem FrP.keep {w w' : World} {lo : Nat} {L : List (Value × List Int)} (h : FrP w lo L) (hk : ∀ x ∈ L, Own w lo 3 x.1 (ints x.2) → Own w' lo 3 x.1 (ints x.2)) : FrP w' lo L :=
  ⟨fun x hx => ⟨(h.1 x hx).1, hk x hx (h.1 x hx).2⟩, h.2⟩
theorem FrP.frc {w : World} {lo : Nat} {L : List (Value × List Int)} (h : FrP w lo L) : FrC w lo 3 (L.map (·.1)) ((L.map (·.2)).map ints) := by
  refine ⟨by simp, fun i hi => ?_, fun i j u u' g hi hj hu hu' => ?_⟩
  · simp only [List.length_map] at hi
    have hm : L[i] ∈ L := List.getElem_mem hi
    obtain ⟨⟨A, c, e⟩, ho⟩ := h.1 _ hm
    have eg : gc ((L.map (·.2)).map ints) i = ints L[i].2 := by simp [gc, hi]
    rw [eg, ints_len]
    refine ⟨A, c, ?_, ?_⟩
    · rw [List.getElem?_map, List.getElem?_eq_getElem hi, Option.map_some, e]
    · rw [← e]; exact ho
  · rw [List.getElem?_map] at hi hj
    rcases hx : L[i]? with _ | x
    · rw [hx] at hi; cases hi
    rcases hy : L[j]? with _ | y
    · rw [hy] at hj; cases hj
    rw [hx] at hi; rw [hy] at hj
    simp only [Option.map_some, Option.some.injEq] at hi hj
    subst hi hj
    obtain ⟨hil, rfl⟩ := List.getElem?_eq_some_iff.1 hx
    obtain ⟨hjl, rfl⟩ := List.getElem?_eq_some_iff.1 hy
    have hp := List.pairwise_iff_getElem.1 h.2
    rcases Nat.lt_trichotomy i j with hlt | he | hlt
    · exact absurd hu' (hp i j hil hjl hlt g hu)
    · exact he
    · exact absurd hu (hp j i hjl hil hlt g hu')
theorem FrC.frp {w : World} {lo : Nat} {cs : List Value} {xss : List (List Int)} (h : FrC w lo 3 cs (xss.map ints)) : FrP w lo (cs.zip xss) := by
  have hl : cs.length = xss.length := by have := h.1; rwa [List.length_map] at this
  have key : ∀ i, i < xss.length → ∃ A c, cs[i]? = some (.slice A (gl xss i).length c) ∧ Own w lo 3 (.slice A (gl xss i).length c) (ints (gl xss i)) := fun i hi => by
    obtain ⟨A, c, k1, k2⟩ := h.2.1 i (by rw [List.length_map]; exact hi)
    rw [gc_ints, ints_len] at k1 k2
    exact ⟨A, c, k1, k2⟩
  refine ⟨fun x hx => ?_, ?_⟩
  · obtain ⟨i, hi, rfl⟩ := List.getElem_of_mem hx
    rw [List.length_zip] at hi
    obtain ⟨A, c, k1, k2⟩ := key i (by omega)
    rw [List.getElem_zip]
    have e1 : cs[i]'(by omega) = .slice A (gl xss i).length c := by
      rw [List.getElem?_eq_getElem (by omega)] at k1
      exact Option.some.inj k1
    have e2 : xss[i]'(by omega) = gl xss i := (gl_lt (by omega)).symm
    simp only [e1, e2]
    exact ⟨⟨A, c, rfl⟩, k2⟩
  · rw [List.pairwise_iff_getElem]
    intro i j hi hj hij g hu hu'
    rw [List.length_zip] at hi hj
    rw [List.getElem_zip] at hu hu'
    have := h.2.2 i j _ _ g (List.getElem?_eq_getElem (by omega)) (List.getElem?_eq_getElem (by omega)) hu hu'
    omega
theorem zip_fst {α β : Type} : ∀ (xs : List α) (ys : List β), xs.length = ys.length → (xs.zip ys).map (·.1) = xs ∧ (xs.zip ys).map (·.2) = ys
  | [], [], _ => ⟨rfl, rfl⟩
  | [], _ :: _, h => by simp at h
  | _ :: _, [], h => by simp at h
  | x :: xs, y :: ys, h => by
    obtain ⟨h1, h2⟩ := zip_fst xs ys (by simpa using h)
    simp only [List.zip_cons_cons, List.map_cons, h1, h2]
    exact ⟨trivial, trivial⟩
end Go.Proofs.Ytbledcogbkeneaa
