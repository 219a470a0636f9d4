/- Slices of slices of integers that are read. Conditions: none. -/
import Derived.Test.YtdjchjmmpjofcaaDoorMem
import Derived.Deep.LoopGhost
import Derived.Deep.DeepCutAuto
import Derived.Deep.CutBlock
import Derived.Deep.RegionHeld3
namespace Go.Proofs.YtdjchjmmpjofcaaDoor
open Go.RowKit
set_option linter.unusedVariables false

/-- The i-th list. -/
def gl (xss : List (List Int)) (i : Nat) : List Int := xss.getD i []
/-- The address lies in block lo or behind it. -/
def Lo (lo : Nat) (A : Option Addr) : Prop := ∀ a, A = some a → lo ≤ a.block
theorem Lo.none {lo : Nat} : Lo lo none := fun a h => by cases h
theorem Lo.le {lo lo' : Nat} {A : Option Addr} (h : Lo lo A) (hl : lo' ≤ lo) : Lo lo' A := fun a ha => Nat.le_trans hl (h a ha)
theorem Lo.zero {A : Option Addr} : Lo 0 A := fun a _ => Nat.zero_le _
theorem Lo.own {w : World} {base : Nat} {E : TypeId} {A : Option Addr} {n c : Nat} {cs : List Value} (h : Own w base E (.slice A n c) cs) : Lo base A := by
  intro a ha
  subst ha
  exact (h.lt a.block rfl).1
theorem Lo.ownI {w : World} {base : Nat} {A : Option Addr} {n c : Nat} {xs : List Int} (h : OwnI w base (.slice A n c) xs) : Lo base A := Lo.own (own_ints.1 h)
/-- The cells cs are slices that read as the lists xss, all between the blocks lo and B. -/
def RowsAt (w : World) (lo B : Nat) (cs : List Value) (xss : List (List Int)) : Prop :=
  cs.length = xss.length ∧ ∀ i, i < xss.length → ∃ Ai ci, cs[i]? = some (.slice Ai (gl xss i).length ci) ∧ RdI w B Ai ci (gl xss i) ∧ Lo lo Ai
theorem RowsAt.keep {w w' : World} {lo B B' : Nat} {cs : List Value} {xss : List (List Int)} (h : RowsAt w lo B cs xss) (hk : ∀ A c xs, RdI w B A c xs → Lo lo A → RdI w' B' A c xs) : RowsAt w' lo B' cs xss :=
  ⟨h.1, fun i hi => by obtain ⟨Ai, ci, h1, h2, h3⟩ := h.2 i hi; exact ⟨Ai, ci, h1, hk _ _ _ h2 h3, h3⟩⟩
theorem RowsAt.le {w : World} {lo lo' B : Nat} {cs : List Value} {xss : List (List Int)} (h : RowsAt w lo B cs xss) (hl : lo' ≤ lo) : RowsAt w lo' B cs xss :=
  ⟨h.1, fun i hi => by obtain ⟨Ai, ci, h1, h2, h3⟩ := h.2 i hi; exact ⟨Ai, ci, h1, h2, h3.le hl⟩⟩
theorem gl_lt {xss : List (List Int)} {i : Nat} (h : i < xss.length) : gl xss i = xss[i] := by simp [gl, h]
theorem RowsAt.append {w : World} {lo B : Nat} {cs ds : List Value} {xss yss : List (List Int)} (h : RowsAt w lo B cs xss) (k : RowsAt w lo B ds yss) : RowsAt w lo B (cs ++ ds) (xss ++ yss) := by
  refine ⟨by rw [List.length_append, List.length_append, h.1, k.1], fun i hi => ?_⟩
  rw [List.length_append] at hi
  by_cases hl : i < xss.length
  · obtain ⟨Ai, ci, h1, h2⟩ := h.2 i hl
    have e : gl (xss ++ yss) i = gl xss i := by simp [gl, List.getElem?_append_left hl]
    rw [e]
    exact ⟨Ai, ci, by rw [List.getElem?_append_left (by rw [h.1]; exact hl)]; exact h1, h2⟩
  · obtain ⟨Ai, ci, h1, h2⟩ := k.2 (i - xss.length) (by omega)
    have e : gl (xss ++ yss) i = gl yss (i - xss.length) := by simp [gl, List.getElem?_append_right (Nat.le_of_not_lt hl)]
    rw [e]
    exact ⟨Ai, ci, by rw [List.getElem?_append_right (by rw [h.1]; omega), h.1]; exact h1, h2⟩
theorem RowsAt.take {w : World} {lo B : Nat} {cs : List Value} {xss : List (List Int)} (h : RowsAt w lo B cs xss) (k : Nat) : RowsAt w lo B (cs.take k) (xss.take k) := by
  refine ⟨by rw [List.length_take, List.length_take, h.1], fun i hi => ?_⟩
  rw [List.length_take] at hi
  obtain ⟨Ai, ci, h1, h2⟩ := h.2 i (by omega)
  have e : gl (xss.take k) i = gl xss i := by simp [gl, List.getElem?_take_of_lt (show i < k by omega)]
  rw [e]
  exact ⟨Ai, ci, by rw [List.getElem?_take_of_lt (by omega)]; exact h1, h2⟩
theorem RowsAt.drop {w : World} {lo B : Nat} {cs : List Value} {xss : List (List Int)} (h : RowsAt w lo B cs xss) (k : Nat) : RowsAt w lo B (cs.drop k) (xss.drop k) := by
  refine ⟨by rw [List.length_drop, List.length_drop, h.1], fun i hi => ?_⟩
  rw [List.length_drop] at hi
  obtain ⟨Ai, ci, h1, h2⟩ := h.2 (k + i) (by omega)
  have e : gl (xss.drop k) i = gl xss (k + i) := by simp [gl]
  rw [e]
  exact ⟨Ai, ci, by rw [List.getElem?_drop]; exact h1, h2⟩
theorem RowsAt.one {w : World} {lo B : Nat} {A : Option Addr} {c : Nat} {xs : List Int} (h : RdI w B A c xs) (hl : Lo lo A) : RowsAt w lo B [.slice A xs.length c] [xs] :=
  ⟨rfl, fun i hi => by
    have : i = 0 := by simpa using hi
    subst this
    exact ⟨A, c, rfl, h, hl⟩⟩
theorem RowsAt.nil {w : World} {lo B : Nat} : RowsAt w lo B [] [] := ⟨rfl, fun i hi => absurd hi (by simp)⟩
theorem RowsAt.cell1 {w : World} {lo B : Nat} {cs : List Value} {xss : List (List Int)} (h : RowsAt w lo B cs xss) : ∀ u ∈ cs, u.oneCell' = true := by
  intro u hu
  obtain ⟨i, hi, rfl⟩ := List.getElem_of_mem hu
  obtain ⟨Ai, ci, h1, _⟩ := h.2 i (by rw [← h.1]; exact hi)
  rw [List.getElem?_eq_getElem hi] at h1
  injection h1 with h1
  rw [h1]; rfl
/-- Slice A of capacity c reads as the lists xss. -/
def RdR (w : World) (lo B : Nat) (A : Option Addr) (c : Nat) (xss : List (List Int)) : Prop := ∃ cs, Rd w B A c cs ∧ Lo lo A ∧ RowsAt w lo B cs xss
theorem RdR.below {w w' : World} {lo B B' c : Nat} {A : Option Addr} {xss : List (List Int)} (h : RdR w lo B A c xss) (hb : Below B' w w') (hB : B ≤ B') : RdR w' lo B A c xss := by
  obtain ⟨cs, h1, hl, h2⟩ := h
  exact ⟨cs, h1.below hb hB, hl, h2.keep fun _ _ _ k _ => k.below hb hB⟩
theorem RdR.more {w : World} {lo B B' c : Nat} {A : Option Addr} {xss : List (List Int)} (h : RdR w lo B A c xss) (hB : B ≤ B') : RdR w lo B' A c xss := by
  obtain ⟨cs, h1, hl, h2⟩ := h
  exact ⟨cs, h1.more hB, hl, h2.keep fun _ _ _ k _ => k.more hB⟩
theorem Rd.grown {w w' : World} {lo B c : Nat} {A : Option Addr} {cs : List Value} {row : Option Nat} (h : Rd w B A c cs) (hl : Lo lo A) (hg : w.grownBy w' row) (hB : B ≤ w.heap.size) (hr : ∀ g, row = some g → g < lo ∨ B ≤ g) : Rd w' B A c cs :=
  ⟨h.1, h.2.1, h.2.2.1, fun j hj => by
    obtain ⟨b, o, hA, hb, hc⟩ := h.2.2.2 j hj
    refine ⟨b, o, hA, hb, fun i u hi => ?_⟩
    refine (World.cell?_of_block (w := w) (a := ⟨b, o + i, none⟩) (hg.block b (by omega) fun e => ?_)).trans (hc i u hi)
    have h1 := hl _ hA
    have h1' : lo ≤ b := h1
    rcases hr b e.symm with h2 | h2 <;> omega⟩
theorem RdR.grown {w w' : World} {lo B c : Nat} {A : Option Addr} {xss : List (List Int)} {row : Option Nat} (h : RdR w lo B A c xss) (hg : w.grownBy w' row) (hB : B ≤ w.heap.size) (hr : ∀ g, row = some g → g < lo ∨ B ≤ g) : RdR w' lo B A c xss := by
  obtain ⟨cs, h1, hl, h2⟩ := h
  exact ⟨cs, h1.grown hl hg hB hr, hl, h2.keep fun _ _ _ k kl => Rd.grown k kl hg hB hr⟩
theorem RdR.len {w : World} {lo B c : Nat} {A : Option Addr} {xss : List (List Int)} (h : RdR w lo B A c xss) : xss.length ≤ c := by
  obtain ⟨cs, h1, hl, h2⟩ := h
  rw [← h2.1]; exact h1.1
theorem RdR.max {w : World} {lo B c : Nat} {A : Option Addr} {xss : List (List Int)} (h : RdR w lo B A c xss) : c ≤ 9223372036854775807 := by
  obtain ⟨cs, h1, hl, h2⟩ := h
  exact h1.max
theorem RdR.at {w : World} {lo B c : Nat} {A : Option Addr} {xss : List (List Int)} (h : RdR w lo B A c xss) {j : Nat} (hj : j < xss.length) :
    ∃ b o, A = some ⟨b, o, none⟩ ∧ b < B ∧ ∀ i, i < xss.length → ∃ Ai ci, w.cell? ⟨b, o + i, none⟩ = some (.slice Ai (gl xss i).length ci) ∧ RdI w B Ai ci (gl xss i) := by
  obtain ⟨cs, h1, hl, h2⟩ := h
  obtain ⟨b, o, hA, hb, hc⟩ := h1.at (j := j) (by rw [h2.1]; exact hj)
  refine ⟨b, o, hA, hb, fun i hi => ?_⟩
  obtain ⟨Ai, ci, k1, k2, _⟩ := h2.2 i hi
  exact ⟨Ai, ci, hc i _ k1, k2⟩
end Go.Proofs.YtdjchjmmpjofcaaDoor
