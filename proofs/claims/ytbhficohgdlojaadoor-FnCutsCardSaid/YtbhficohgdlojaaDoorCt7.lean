/- FnExactTreeCuts returns true for every tree and player. Conditions: none. -/
import Derived.Test.YtbhficohgdlojaaDoorCt6
namespace Go.Proofs.YtbhficohgdlojaaDoor
open Go.RowKit
set_option linter.unusedVariables false

theorem FrT.grown {w w' : World} {lo : Nat} {v : Value} {ts : List (List Int × ByteArray)} {row : Option Nat} (h : FrT w lo v ts) (hg : w.grownBy w' row) (hr : ∀ g, row = some g → g < lo) : FrT w' lo v ts := by
  obtain ⟨us, h1, h2, h3⟩ := h
  refine ⟨us, World.ownsRow.kept h1 hg ?_, h2.keep fun _ x _ _ k => k.grown hg ?_, h3⟩
  · by_cases hv : v.ownBlock = none
    · exact .inl hv
    · obtain ⟨g, hgv⟩ := Option.ne_none_iff_exists'.1 hv
      exact .inr fun e => by have := hr g (by rw [← e]; exact hgv); have := (h1.lt g hgv).1; omega
  · by_cases hv : x.ownBlock = none
    · exact .inl hv
    · obtain ⟨g, hgv⟩ := Option.ne_none_iff_exists'.1 hv
      exact .inr fun e => by have := hr g (by rw [← e]; exact hgv); have := (k.lt g hgv).1; omega
theorem RdI.grownUp {w w' : World} {B c : Nat} {A : Option Addr} {xs : List Int} {row : Option Nat} (h : RdI w B A c xs) (hg : w.grownBy w' row) (hB : B ≤ w.heap.size) (hr : ∀ g, row = some g → B ≤ g) : RdI w' B A c xs :=
  ⟨h.1, Rd.max h, h.2.2.1, fun j hj => by
    obtain ⟨b, o, hA, hb, hc⟩ := h.2.2.2 j hj
    refine ⟨b, o, hA, hb, fun i u hi => ?_⟩
    refine (World.cell?_of_block (w := w) (a := ⟨b, o + i, none⟩) (hg.block b (by omega) fun e => ?_)).trans (hc i u hi)
    have h2 := hr b e.symm
    omega⟩
theorem RdT.grownUp {w w' : World} {B c : Nat} {A : Option Addr} {ts : List (List Int × ByteArray)} {row : Option Nat} (h : RdT w B A c ts) (hg : w.grownBy w' row) (hB : B ≤ w.heap.size) (hr : ∀ g, row = some g → B ≤ g) : RdT w' B A c ts :=
  ⟨h.1, h.2.1, fun j hj => by
    obtain ⟨b, o, hA, hbB, hc⟩ := h.2.2 j hj
    refine ⟨b, o, hA, hbB, fun i hi => ?_⟩
    obtain ⟨Ai, ci, k1, k2, k3⟩ := hc i hi
    have hk : ∀ p, w'.cell? ⟨b, p, none⟩ = w.cell? ⟨b, p, none⟩ := fun p => World.cell?_of_block (w := w) (a := ⟨b, p, none⟩) (hg.block b (by omega) fun e => by have := hr b e.symm; omega)
    exact ⟨Ai, ci, (hk _).trans k1, (hk _).trans k2, k3.grownUp hg hB hr⟩⟩
theorem RdT.more {w : World} {B B' c : Nat} {A : Option Addr} {ts : List (List Int × ByteArray)} (h : RdT w B A c ts) (hB : B ≤ B') : RdT w B' A c ts :=
  ⟨h.1, h.2.1, fun j hj => by
    obtain ⟨b, o, hA, hbB, hc⟩ := h.2.2 j hj
    exact ⟨b, o, hA, by omega, fun i hi => by obtain ⟨Ai, ci, k1, k2, k3⟩ := hc i hi; exact ⟨Ai, ci, k1, k2, RdI.more k3 hB⟩⟩⟩
theorem RdT.form {w : World} {lo : Nat} {v : Value} {ts : List (List Int × ByteArray)} (h : FrT w lo v ts) : ∃ A c, v = .slice A ts.length c ∧ RdT w w.heap.size A c ts := by
  obtain ⟨A, c, rfl⟩ := h.form
  exact ⟨A, c, rfl, h.rd.2⟩

theorem offT_bound (ts : List (List Int × ByteArray)) (B : Nat) (h : ∀ i, i < ts.length → (gtr' ts i).1.length ≤ B) (j : Nat) (hj : j ≤ ts.length) : offT ts j ≤ j * (B + 1) := by
  induction j with
  | zero => exact Nat.zero_le _
  | succ j ih =>
    have h1 := ih (by omega)
    have h2 := h j (by omega)
    show offT ts j + (gtr' ts j).1.length + 1 ≤ _
    rw [Nat.succ_mul]
    omega
theorem cutsL_small (xs : List Int) (s : ByteArray) (left : Bool) (hg : treeB xs s = true) (k : Nat) (hk : k ≤ xs.length) (i : Nat) (hi : i < (cutsL xs s left k).length) : (gtr' (cutsL xs s left k) i).1.length ≤ 8 := by
  obtain ⟨t1, t2, t3, t4⟩ := treeB_of hg
  induction k with
  | zero => exact absurd hi (by simp [cutsL])
  | succ k ih =>
    have e : cutsL xs s left (k + 1) = if ((s.data.toList.getD k 0 == 76) == left) = true then cutsL xs s left k ++ [cutT xs s k] else cutsL xs s left k := rfl
    rw [e] at hi ⊢
    split
    · rename_i hc
      rw [if_pos hc, List.length_append, List.length_singleton] at hi
      by_cases hl : i < (cutsL xs s left k).length
      · have : gtr' (cutsL xs s left k ++ [cutT xs s k]) i = gtr' (cutsL xs s left k) i := by unfold gtr'; rw [List.getD_eq_getElem?_getD, List.getElem?_append_left hl, ← List.getD_eq_getElem?_getD]
        rw [this]
        exact ih (by omega) hl
      · have hie : i = (cutsL xs s left k).length := by omega
        have : gtr' (cutsL xs s left k ++ [cutT xs s k]) i = cutT xs s k := by unfold gtr'; rw [hie]; simp
        rw [this]
        have := (cutT_ok hg (e := k) (by omega)).2
        omega
    · rename_i hc
      rw [if_neg hc] at hi
      exact ih (by omega) hi
theorem treeCuts_off (xs : List Int) (s : ByteArray) (left : Bool) : 1 + offT (treeCuts xs s left) (treeCuts xs s left).length ≤ 1000000000 := by
  have hl := treeCuts_len xs s left
  have hb := offT_bound (treeCuts xs s left) 8 (fun i hi => by
    unfold treeCuts at hi ⊢
    split
    · rename_i hg
      rw [if_pos hg] at hi
      exact cutsL_small xs s left hg _ (Nat.le_refl _) i hi
    · simp [gtr']) _ (Nat.le_refl _)
  have : (treeCuts xs s left).length * (8 + 1) ≤ 8 * 9 := Nat.mul_le_mul hl (Nat.le_refl _)
  omega

end Go.Proofs.YtbhficohgdlojaaDoor
