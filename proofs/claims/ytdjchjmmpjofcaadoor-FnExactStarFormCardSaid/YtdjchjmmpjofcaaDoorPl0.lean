/- The pool of games: what it holds while stars are put into it. Conditions: none. -/
import Derived.Test.YtdjchjmmpjofcaaDoorAi
import Derived.Test.YtdjchjmmpjofcaaDoorMemAt
import Derived.Maps.OwnSet
import Derived.Maps.OwnOps
import Derived.Maps.Views
namespace Go.Proofs.YtdjchjmmpjofcaaDoor
open Go.RowKit Go.Maps
set_option linter.unusedVariables false

theorem neT {w : World} {b b' : Nat} {E E' : TypeId} {v v' : Value} {cs cs' : List Value} (h : Own w b E v cs) (h' : Own w b' E' v' cs') (hE : E ≠ E') : v.ownBlock = none ∨ v.ownBlock ≠ v'.ownBlock := by
  rcases h.2 with ⟨hv, _⟩ | ⟨g, cap, cur, hv, _, hg, _⟩
  · left; rw [hv]; rfl
  · rcases h'.2 with ⟨hv', _⟩ | ⟨g', cap', cur', hv', _, hg', _⟩
    · right; rw [hv, hv']; exact fun e => by cases e
    · right
      rw [hv, hv']
      intro e
      have e : g = g' := by injection e
      subst e
      rw [hg] at hg'
      injection hg' with hg'
      injection hg' with _ h2 _
      exact hE h2
theorem neBlk {w : World} {b g : Nat} {E T : TypeId} {v : Value} {xs : List Value} {cs : Array Value} (h : Own w b E v xs) (hb : Blk w g T cs) (hE : E ≠ T) : v.ownBlock ≠ some g := by
  rcases h.2 with ⟨hv, _⟩ | ⟨g', cap, cur, hv, _, hg, _⟩
  · rw [hv]; exact fun e => by cases e
  · rw [hv]
    intro e
    have e : g' = g := by injection e
    subst e
    have hb : w.heap[g']? = some (.cells cs T (0, 0)) := hb
    rw [hg] at hb
    injection hb with hb
    injection hb with _ h2 _
    exact hE h2
theorem neMap {w : World} {b mf n : Nat} {E k : TypeId} {v : Value} {xs : List Value} {R : Value → Option (DataW Unit × List MemPlace)} {D : DataW Unit} (h : Own w b E v xs) (hm : w.ownsMap Tryd.prog k R mf n D) : v.ownBlock ≠ some mf := by
  rcases h.2 with ⟨hv, _⟩ | ⟨g', cap, cur, hv, _, hg, _⟩
  · rw [hv]; exact fun e => by cases e
  · rw [hv]
    intro e
    have e : g' = mf := by injection e
    subst e
    obtain ⟨es, clock, hb, _⟩ := hm
    rw [hg] at hb
    injection hb with hb
    cases hb
theorem blkMap {w : World} {g mf n : Nat} {T k : TypeId} {cs : Array Value} {R : Value → Option (DataW Unit × List MemPlace)} {D : DataW Unit} (h : Blk w g T cs) (hm : w.ownsMap Tryd.prog k R mf n D) : g ≠ mf := by
  intro e
  subst e
  obtain ⟨es, clock, hb, _⟩ := hm
  have h : w.heap[g]? = some (.cells cs T (0, 0)) := h
  rw [h] at hb
  injection hb with hb
  cases hb

/-- The numbers below k. -/
def rng (k : Nat) : List Int := (List.range k).map fun (i : Nat) => (i : Int)
theorem rng_len (k : Nat) : (rng k).length = k := by simp [rng]
theorem gi_rng (k i : Nat) (h : i < k) : gi (rng k) i = i := by simp [gi, rng, h]
theorem rng_succ (k : Nat) : rng (k + 1) = rng k ++ [(k : Int)] := by simp [rng, List.range_succ]
/-- The text of one side's options. -/
def kk : Nat → List UInt8
  | 0 => []
  | k + 1 => kk k ++ [dgt k] ++ [44]
theorem kk_len (k : Nat) : (kk k).length = 2 * k := by
  induction k with
  | zero => rfl
  | succ k ih => rw [kk, List.length_append, List.length_append, ih]; simp; omega
/-- A star's key. -/
def kT (k : Nat) : List UInt8 := kk k ++ [124] ++ kk k
theorem kT_len (k : Nat) : (kT k).length = 4 * k + 1 := by rw [kT, List.length_append, List.length_append, kk_len]; simp; omega
theorem kT_inj {j k : Nat} (h : kT j = kT k) : j = k := by
  have := congrArg List.length h
  rw [kT_len, kT_len] at this
  omega

theorem keyedS : Keyed Tryd.prog 9 := string_keyed Tryd.underlying9
theorem zeroInt (w : World) : (zeroValue 3).run Tryd.prog w = .ok (.int .i64 0) w := by kernel_rfl
/-- Block mf holds the keys of the stars below k. -/
def FindM (w : World) (mf k : Nat) : Prop :=
  ∃ D : DataW Unit, w.ownsMap Tryd.prog 9 (plainElem (H := Unit) Tryd.prog 3) mf k D ∧ ∀ t : List UInt8, Maps.has D (.string t) = true → ∃ j, j < k ∧ t = kT j
theorem FindM.new (w : World) : FindM (w.alloc (.map #[] 0)) w.heap.size 0 :=
  ⟨.map [], World.ownsMap_made w _ _ _, fun t ht => by simp [Maps.has] at ht⟩
theorem FindM.kept {w w' : World} {mf k : Nat} {row : Option Nat} (h : FindM w mf k) (hg : w.grownBy w' row) (hne : some mf ≠ row) : FindM w' mf k := by
  obtain ⟨D, h1, h2⟩ := h
  exact ⟨D, h1.kept hg hne, h2⟩
theorem FindM.lt {w : World} {mf k : Nat} (h : FindM w mf k) : mf < w.heap.size := by
  obtain ⟨D, h1, h2⟩ := h
  exact h1.lt
theorem FindM.put {w' : World} {mf k : Nat} {D : DataW Unit} (hm : IsMap D) (h : ∀ t : List UInt8, Maps.has D (.string t) = true → ∃ j, j < k ∧ t = kT j) (x : DataW Unit)
    (ho : w'.ownsMap Tryd.prog 9 (plainElem (H := Unit) Tryd.prog 3) mf (k + 1) (D.put (.string (kT k)) x)) : FindM w' mf (k + 1) := by
  refine ⟨_, ho, fun t ht => ?_⟩
  by_cases e : t = kT k
  · exact ⟨k, by omega, e⟩
  · rw [has_put_other (fun h => e (by injection h))] at ht
    obtain ⟨j, hj, e2⟩ := h t ht
    exact ⟨j, by omega, e2⟩
/-- A row that is none of the pool's. -/
def Fre (v vB : Value) : Prop := v.ownBlock = none ∨ v.ownBlock ≠ vB.ownBlock
/-- The pool's block p, in which kL left rows, kR right rows, kB birthdays and kF keys lie. -/
structure PoolG (w : World) (lo p mf kL kR kB kF : Nat) (vL vR vB : Value) (us vs : List Value) : Prop where
  plo : lo ≤ p
  mlo : lo ≤ mf
  blk : ∃ m1 m2 m3 m4 : Value, Blk w p 47 #[vL, vR, vB, .map (some mf), m1, m2, m3, m4]
  L : Own w lo 37 vL us
  R : Own w lo 37 vR vs
  B : Own w lo 3 vB (ints (rng kB))
  F : FindM w mf kF
  ul : us.length = kL
  vl : vs.length = kR
  ur : ∀ (i : Nat) (u : Value), us[i]? = some u → Own w lo 3 u (ints (rng i)) ∧ Fre u vB
  vr : ∀ (i : Nat) (u : Value), vs[i]? = some u → Own w lo 3 u (ints (rng i)) ∧ Fre u vB
  LR : Fre vL vR
theorem Fre.sym {v v' : Value} (h : Fre v v') : Fre v' v := by
  rcases h with h | h
  · by_cases e : v'.ownBlock = none
    · exact .inl e
    · exact .inr (by rw [h]; exact e)
  · exact .inr fun e => h e.symm
theorem neq_row {v : Value} {g : Nat} (h : v.ownBlock ≠ some g) : some g ≠ v.ownBlock := fun e => h e.symm
theorem grown_below {w w' : World} (h : Below w.heap.size w w') (row : Option Nat) : w.grownBy w' row := ⟨h.os, h.tape, h.output, h.size, fun k hk _ => h.block k hk⟩

theorem PoolG.below {w w' : World} {lo p mf kL kR kB kF : Nat} {vL vR vB : Value} {us vs : List Value} (h : PoolG w lo p mf kL kR kB kF vL vR vB us vs) (hb : Below w.heap.size w w') : PoolG w' lo p mf kL kR kB kF vL vR vB us vs := by
  obtain ⟨m1, m2, m3, m4, hblk⟩ := h.blk
  exact ⟨h.plo, h.mlo, ⟨m1, m2, m3, m4, hblk.below hb hblk.lt⟩, h.L.below hb, h.R.below hb, h.B.below hb, h.F.kept (grown_below hb none) (by simp), h.ul, h.vl, fun i u hi => ⟨(h.ur i u hi).1.below hb, (h.ur i u hi).2⟩, fun i u hi => ⟨(h.vr i u hi).1.below hb, (h.vr i u hi).2⟩, h.LR⟩
/-- A row of numbers that is none of the pool's stays while one of the pool's blocks is written. -/
theorem PoolG.keptO {w w' : World} {lo p mf kL kR kB kF : Nat} {vL vR vB : Value} {us vs : List Value} {row : Option Nat} (h : PoolG w lo p mf kL kR kB kF vL vR vB us vs) (hg : w.grownBy w' row)
    (hp : some p ≠ row) (hm : some mf ≠ row) (hL : vL.ownBlock = none ∨ vL.ownBlock ≠ row) (hR : vR.ownBlock = none ∨ vR.ownBlock ≠ row) (hB : vB.ownBlock = none ∨ vB.ownBlock ≠ row)
    (hu : ∀ (i : Nat) (u : Value), us[i]? = some u → u.ownBlock = none ∨ u.ownBlock ≠ row) (hv : ∀ (i : Nat) (u : Value), vs[i]? = some u → u.ownBlock = none ∨ u.ownBlock ≠ row) : PoolG w' lo p mf kL kR kB kF vL vR vB us vs := by
  obtain ⟨m1, m2, m3, m4, hblk⟩ := h.blk
  exact ⟨h.plo, h.mlo, ⟨m1, m2, m3, m4, hblk.grown hg hp⟩, h.L.grown hg hL, h.R.grown hg hR, h.B.grown hg hB, h.F.kept hg hm, h.ul, h.vl, fun i u hi => ⟨(h.ur i u hi).1.grown hg (hu i u hi), (h.ur i u hi).2⟩, fun i u hi => ⟨(h.vr i u hi).1.grown hg (hv i u hi), (h.vr i u hi).2⟩, h.LR⟩
end Go.Proofs.YtdjchjmmpjofcaaDoor
