/- The pool of games: a row more on its left, on its right, a birthday more. Conditions: none. -/
import Derived.Test.YtdjchjmmpjofcaaDoorDst
namespace Go.Proofs.YtdjchjmmpjofcaaDoor
open Go.RowKit Go.Maps
set_option linter.unusedVariables false

theorem grown_set (w : World) (p i : Nat) (u : Value) : w.grownBy (w.setCell ⟨p, i, none⟩ u) (some p) :=
  ⟨rfl, rfl, rfl, by simp, fun k _ hk => Below.heap_setCell _ _ _ _ (fun e => hk (by rw [e]))⟩
theorem snocU {us : List Value} {u : Value} {n : Nat} (hl : us.length = n) {P : Nat → Value → Prop} (h : ∀ i x, us[i]? = some x → P i x) (hu : P n u) : ∀ i x, (us ++ [u])[i]? = some x → P i x := by
  intro i x hx
  by_cases hi : i < us.length
  · rw [List.getElem?_append_left hi] at hx; exact h i x hx
  · rw [List.getElem?_append_right (by omega)] at hx
    rcases Nat.eq_zero_or_pos (i - us.length) with h0 | h0
    · rw [h0] at hx; simp at hx; subst hx
      have : i = n := by omega
      rw [this]; exact hu
    · rw [List.getElem?_eq_none (by simp; omega)] at hx; cases hx
theorem neIR : 3 ≠ 37 := by decide
theorem neIP : 3 ≠ 47 := by decide
theorem neRP : 37 ≠ 47 := by decide

theorem PoolG.pushL {w w1 w2 : World} {lo p mf kL kR kB kF : Nat} {vL vR vB : Value} {us vs : List Value} (h : PoolG w lo p mf kL kR kB kF vL vR vB us vs) (hlo : lo ≤ w.heap.size)
    {u v' : Value} (hu : Own w lo 3 u (ints (rng kL))) (huf : Fre u vB) (hb1 : Below w.heap.size w w1) (ho : Own w2 lo 37 v' (us ++ [u])) (hg : w1.grownBy w2 vL.ownBlock) (hp : v'.ownBlock = vL.ownBlock ∨ v'.ownBlock = some w1.heap.size) :
    PoolG (w2.setCell ⟨p, 0, none⟩ v') lo p mf (kL + 1) kR kB kF v' vR vB (us ++ [u]) vs ∧ (∀ v xs, Own w lo 3 v xs → Own (w2.setCell ⟨p, 0, none⟩ v') lo 3 v xs) ∧ Below lo w (w2.setCell ⟨p, 0, none⟩ v') := by
  have h1 := h.below hb1
  obtain ⟨m1, m2, m3, m4, hblk⟩ := h1.blk
  have hblk2 := hblk.grown hg (fun e => neBlk h1.L hblk neRP e.symm)
  have hs := grown_set w2 p 0 v'
  have hI : ∀ v xs, Own w lo 3 v xs → Own (w2.setCell ⟨p, 0, none⟩ v') lo 3 v xs := fun v xs hv => by
    have k1 := hv.below hb1
    have k2 := k1.grown hg (neT k1 h1.L neIR)
    exact k2.grown hs (.inr (neBlk k2 hblk2 neIP))
  have hOY : Own w2 lo 37 vR vs := h1.R.grown hg h.LR.sym
  obtain ⟨D, hD, hDk⟩ := h1.F
  have hF2 : FindM w2 mf kF := FindM.kept ⟨D, hD, hDk⟩ hg (fun e => neMap h1.L hD e.symm)
  have hF3 : FindM (w2.setCell ⟨p, 0, none⟩ v') mf kF := by
    refine hF2.kept hs (fun e => ?_)
    injection e with e
    obtain ⟨D2, hD2, _⟩ := hF2
    exact blkMap hblk2 hD2 e.symm
  refine ⟨⟨h.plo, h.mlo, ⟨m1, m2, m3, m4, hblk2.set 0 v'⟩, (ho.grown hs (.inr (neBlk ho hblk2 neRP))), (hOY.grown hs (.inr (neBlk hOY hblk2 neRP))), hI _ _ h.B, hF3, (by rw [List.length_append, List.length_singleton, h.ul]), h.vl, (snocU (P := fun i x => Own (w2.setCell ⟨p, 0, none⟩ v') lo 3 x (ints (rng i)) ∧ Fre x vB) h.ul (fun i x hx => ⟨hI _ _ (h.ur i x hx).1, (h.ur i x hx).2⟩) ⟨hI _ _ hu, huf⟩), (fun i x hx => ⟨hI _ _ (h.vr i x hx).1, (h.vr i x hx).2⟩), ?_⟩, hI, ?_⟩
  · have hz1 := hb1.size
    rcases hp with e | e
    · rcases h.LR with e3 | e3
      · exact .inl (e.trans e3)
      · exact .inr (by rw [e]; exact e3)
    · refine .inr fun e2 => ?_
      have := (h.R.lt _ (e2.symm.trans e)).2
      omega
  · refine ((Below.mono hb1 hlo).grown hg (by have := hb1.size; omega) fun k hk => (h1.L.lt k hk).1).setCell h.plo _

theorem PoolG.pushR {w w1 w2 : World} {lo p mf kL kR kB kF : Nat} {vL vR vB : Value} {us vs : List Value} (h : PoolG w lo p mf kL kR kB kF vL vR vB us vs) (hlo : lo ≤ w.heap.size)
    {u v' : Value} (hu : Own w lo 3 u (ints (rng kR))) (huf : Fre u vB) (hb1 : Below w.heap.size w w1) (ho : Own w2 lo 37 v' (vs ++ [u])) (hg : w1.grownBy w2 vR.ownBlock) (hp : v'.ownBlock = vR.ownBlock ∨ v'.ownBlock = some w1.heap.size) :
    PoolG (w2.setCell ⟨p, 1, none⟩ v') lo p mf kL (kR + 1) kB kF vL v' vB us (vs ++ [u]) ∧ (∀ v xs, Own w lo 3 v xs → Own (w2.setCell ⟨p, 1, none⟩ v') lo 3 v xs) ∧ Below lo w (w2.setCell ⟨p, 1, none⟩ v') := by
  have h1 := h.below hb1
  obtain ⟨m1, m2, m3, m4, hblk⟩ := h1.blk
  have hblk2 := hblk.grown hg (fun e => neBlk h1.R hblk neRP e.symm)
  have hs := grown_set w2 p 1 v'
  have hI : ∀ v xs, Own w lo 3 v xs → Own (w2.setCell ⟨p, 1, none⟩ v') lo 3 v xs := fun v xs hv => by
    have k1 := hv.below hb1
    have k2 := k1.grown hg (neT k1 h1.R neIR)
    exact k2.grown hs (.inr (neBlk k2 hblk2 neIP))
  have hOY : Own w2 lo 37 vL us := h1.L.grown hg h.LR
  obtain ⟨D, hD, hDk⟩ := h1.F
  have hF2 : FindM w2 mf kF := FindM.kept ⟨D, hD, hDk⟩ hg (fun e => neMap h1.R hD e.symm)
  have hF3 : FindM (w2.setCell ⟨p, 1, none⟩ v') mf kF := by
    refine hF2.kept hs (fun e => ?_)
    injection e with e
    obtain ⟨D2, hD2, _⟩ := hF2
    exact blkMap hblk2 hD2 e.symm
  refine ⟨⟨h.plo, h.mlo, ⟨m1, m2, m3, m4, hblk2.set 1 v'⟩, (hOY.grown hs (.inr (neBlk hOY hblk2 neRP))), (ho.grown hs (.inr (neBlk ho hblk2 neRP))), hI _ _ h.B, hF3, h.ul, (by rw [List.length_append, List.length_singleton, h.vl]), (fun i x hx => ⟨hI _ _ (h.ur i x hx).1, (h.ur i x hx).2⟩), (snocU (P := fun i x => Own (w2.setCell ⟨p, 1, none⟩ v') lo 3 x (ints (rng i)) ∧ Fre x vB) h.vl (fun i x hx => ⟨hI _ _ (h.vr i x hx).1, (h.vr i x hx).2⟩) ⟨hI _ _ hu, huf⟩), ?_⟩, hI, ?_⟩
  · have hz1 := hb1.size
    rcases hp with e | e
    · rcases h.LR with e3 | e3
      · exact .inl e3
      · exact .inr (by rw [e]; exact e3)
    · refine .inr fun e2 => ?_
      have := (h.L.lt _ (e2.trans e)).2
      omega
  · refine ((Below.mono hb1 hlo).grown hg (by have := hb1.size; omega) fun k hk => (h1.R.lt k hk).1).setCell h.plo _

theorem PoolG.pushB {w w1 w2 : World} {lo p mf kL kR kB kF : Nat} {vL vR vB : Value} {us vs : List Value} (h : PoolG w lo p mf kL kR kB kF vL vR vB us vs) (hlo : lo ≤ w.heap.size)
    {v' : Value} (hb1 : Below w.heap.size w w1) (ho : Own w2 lo 3 v' (ints (rng (kB + 1)))) (hg : w1.grownBy w2 vB.ownBlock) (hp : v'.ownBlock = vB.ownBlock ∨ v'.ownBlock = some w1.heap.size) :
    PoolG (w2.setCell ⟨p, 2, none⟩ v') lo p mf kL kR (kB + 1) kF vL vR v' us vs ∧ (∀ v xs, Own w lo 3 v xs → Fre v vB → Own (w2.setCell ⟨p, 2, none⟩ v') lo 3 v xs ∧ Fre v v') ∧ Below lo w (w2.setCell ⟨p, 2, none⟩ v') := by
  have h1 := h.below hb1
  obtain ⟨m1, m2, m3, m4, hblk⟩ := h1.blk
  have hblk2 := hblk.grown hg (fun e => neBlk h1.B hblk neIP e.symm)
  have hs := grown_set w2 p 2 v'
  have hz1 := hb1.size
  have hI : ∀ v xs, Own w lo 3 v xs → Fre v vB → Own (w2.setCell ⟨p, 2, none⟩ v') lo 3 v xs ∧ Fre v v' := fun v xs hv hf => by
    have k1 := hv.below hb1
    have k2 := k1.grown hg hf
    refine ⟨k2.grown hs (.inr (neBlk k2 hblk2 neIP)), ?_⟩
    rcases hp with e | e
    · rcases hf with e3 | e3
      · exact .inl e3
      · exact .inr (by rw [e]; exact e3)
    · refine .inr fun e2 => ?_
      have := (hv.lt _ (e2.trans e)).2
      omega
  have hR : ∀ v xs, Own w lo 37 v xs → Own (w2.setCell ⟨p, 2, none⟩ v') lo 37 v xs := fun v xs hv => by
    have k1 := hv.below hb1
    have k2 := k1.grown hg (neT k1 h1.B neIR.symm)
    exact k2.grown hs (.inr (neBlk k2 hblk2 neRP))
  obtain ⟨D, hD, hDk⟩ := h1.F
  have hF2 : FindM w2 mf kF := FindM.kept ⟨D, hD, hDk⟩ hg (fun e => neMap h1.B hD e.symm)
  have hF3 : FindM (w2.setCell ⟨p, 2, none⟩ v') mf kF := by
    refine hF2.kept hs (fun e => ?_)
    injection e with e
    obtain ⟨D2, hD2, _⟩ := hF2
    exact blkMap hblk2 hD2 e.symm
  refine ⟨⟨h.plo, h.mlo, ⟨m1, m2, m3, m4, hblk2.set 2 v'⟩, hR _ _ h.L, hR _ _ h.R, ho.grown hs (.inr (neBlk ho hblk2 neIP)), hF3, h.ul, h.vl, fun i x hx => hI _ _ (h.ur i x hx).1 (h.ur i x hx).2, fun i x hx => hI _ _ (h.vr i x hx).1 (h.vr i x hx).2, h.LR⟩, hI, ?_⟩
  refine ((Below.mono hb1 hlo).grown hg (by omega) fun k hk => (h1.B.lt k hk).1).setCell h.plo _
/-- A key more. -/
theorem PoolG.put {w w' : World} {lo p mf kL kR kB kF : Nat} {vL vR vB : Value} {us vs : List Value} (h : PoolG w lo p mf kL kR kB kF vL vR vB us vs) (hg : w.grownBy w' (some mf)) (hlo : lo ≤ w.heap.size)
    (hF : FindM w' mf (kF + 1)) : PoolG w' lo p mf kL kR kB (kF + 1) vL vR vB us vs ∧ (∀ v E xs, Own w lo E v xs → Own w' lo E v xs) ∧ Below lo w w' := by
  obtain ⟨m1, m2, m3, m4, hblk⟩ := h.blk
  obtain ⟨D, hD, hDk⟩ := h.F
  have hI : ∀ v E xs, Own w lo E v xs → Own w' lo E v xs := fun v E xs hv => hv.grown hg (.inr (neMap hv hD))
  exact ⟨⟨h.plo, h.mlo, ⟨m1, m2, m3, m4, hblk.grown hg (fun e => by injection e with e; exact blkMap hblk hD e)⟩, hI _ _ _ h.L, hI _ _ _ h.R, hI _ _ _ h.B, hF, h.ul, h.vl, fun i x hx => ⟨hI _ _ _ (h.ur i x hx).1, (h.ur i x hx).2⟩, fun i x hx => ⟨hI _ _ _ (h.vr i x hx).1, (h.vr i x hx).2⟩, h.LR⟩, hI, (Below.refl _ _).grown hg hlo fun k hk => by injection hk with hk; rw [← hk]; exact h.mlo⟩
end Go.Proofs.YtdjchjmmpjofcaaDoor
