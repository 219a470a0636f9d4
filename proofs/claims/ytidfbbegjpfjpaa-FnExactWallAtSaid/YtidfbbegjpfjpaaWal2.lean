/- Rows of points, by cells; GoodWall of the program. Conditions: none. -/
import Derived.Test.YtidfbbegjpfjpaaWal1
import Derived.Test.YtidfbbegjpfjpaaMem
namespace Go.Proofs.Ytidfbbegjpfjpaa
open Go.RowKit
set_option linter.unusedVariables false

structure Pt where
  t : Int
  p : Int
  u : Int
  q : Int
def gp (xs : List Pt) (i : Nat) : Pt := xs.getD i ⟨0, 0, 0, 0⟩
def C4 (w : World) (b o : Nat) (x : Pt) : Prop := w.cell? ⟨b, o, none⟩ = some (.int .i64 x.t) ∧ w.cell? ⟨b, o + 1, none⟩ = some (.int .i64 x.p) ∧ w.cell? ⟨b, o + 2, none⟩ = some (.int .i64 x.u) ∧ w.cell? ⟨b, o + 3, none⟩ = some (.int .i64 x.q)
/-- Slice A of capacity c reads as the points xs, all below block B. -/
def RdP (w : World) (B : Nat) (A : Option Addr) (c : Nat) (xs : List Pt) : Prop :=
  xs.length ≤ c ∧ c ≤ maxLen ∧ (A = none → c = 0) ∧ ∀ j, j < xs.length → ∃ b o, A = some ⟨b, o, none⟩ ∧ b < B ∧ ∀ i, i < xs.length → C4 w b (o + i * 4) (gp xs i)
theorem RdP.len {w : World} {B c : Nat} {A : Option Addr} {xs : List Pt} (h : RdP w B A c xs) : xs.length ≤ c := h.1
theorem RdP.max {w : World} {B c : Nat} {A : Option Addr} {xs : List Pt} (h : RdP w B A c xs) : c ≤ 9223372036854775807 := by have := h.2.1; unfold maxLen at this; exact this
theorem RdP.at {w : World} {B c : Nat} {A : Option Addr} {xs : List Pt} (h : RdP w B A c xs) {j : Nat} (hj : j < xs.length) :
    ∃ b o, A = some ⟨b, o, none⟩ ∧ b < B ∧ ∀ i, i < xs.length → C4 w b (o + i * 4) (gp xs i) := h.2.2.2 j hj
theorem C4.keep {w w' : World} {b o : Nat} {x : Pt} (h : C4 w b o x) (hk : ∀ p : Addr, p.block = b → w'.cell? p = w.cell? p) : C4 w' b o x :=
  ⟨(hk _ rfl).trans h.1, (hk _ rfl).trans h.2.1, (hk _ rfl).trans h.2.2.1, (hk _ rfl).trans h.2.2.2⟩
theorem RdP.below {w w' : World} {B B' c : Nat} {A : Option Addr} {xs : List Pt} (h : RdP w B A c xs) (hb : Below B' w w') (hB : B ≤ B') : RdP w' B A c xs :=
  ⟨h.1, h.2.1, h.2.2.1, fun j hj => by
    obtain ⟨b, o, hA, hbB, hc⟩ := h.2.2.2 j hj
    exact ⟨b, o, hA, hbB, fun i hi => (hc i hi).keep fun p hp => hb.cell (by rw [hp]; omega)⟩⟩
theorem RdP.more {w : World} {B B' c : Nat} {A : Option Addr} {xs : List Pt} (h : RdP w B A c xs) (hB : B ≤ B') : RdP w B' A c xs :=
  ⟨h.1, h.2.1, h.2.2.1, fun j hj => by
    obtain ⟨b, o, hA, hbB, hc⟩ := h.2.2.2 j hj
    exact ⟨b, o, hA, by omega, hc⟩⟩

def pa (x : Pt) : Int := sc x.t x.p.toNat
def pv (x : Pt) : Int := sc x.u x.q.toNat
def gPt (x : Pt) : Prop := goodDyB x.t x.p = true ∧ goodDyB x.u x.q = true
def slk (xs : List Pt) (k : Nat) : Int := slp (pa (gp xs (k + 1)) - pa (gp xs k)) (pv (gp xs (k + 1)) - pv (gp xs k))
def nxt (xs : List Pt) (i : Nat) : Int := if i + 2 < xs.length then slk xs (i + 1) else 0
/-- A valid wall. -/
def GoodW (xs : List Pt) : Prop :=
  1 ≤ xs.length ∧ xs.length ≤ 40 ∧ ((gp xs 0).t = 0 ∧ (gp xs 0).p = 0) ∧ (∀ i, i < xs.length → gPt (gp xs i)) ∧
  (∀ i, i + 1 < xs.length → pa (gp xs i) < pa (gp xs (i + 1))) ∧ ∀ i, i + 1 < xs.length → slk xs i ≠ 2 ∧ slk xs i ≠ nxt xs i
noncomputable def gwB (xs : List Pt) : Bool := by classical exact decide (GoodW xs)
theorem gwB_t {xs : List Pt} (h : GoodW xs) : gwB xs = true := by unfold gwB; exact @decide_eq_true _ (_) h
theorem gwB_f {xs : List Pt} (h : ¬ GoodW xs) : gwB xs = false := by unfold gwB; exact @decide_eq_false _ (_) h

/-- The program's row of tests of two points, in 2^20ths. -/
theorem slp_16 (R V : Int) : slp (R * 16) (V * 16) = slp R V := by
  unfold slp
  have e1 : (V * 16 = 0) ↔ (V = 0) := by omega
  have e2 : (V * 16 = R * 16) ↔ (V = R) := by omega
  have e3 : (V * 16 = -(R * 16)) ↔ (V = -R) := by omega
  simp only [e1, e2, e3]
def a20 (x : Pt) : Int := sc20 x.t x.p.toNat
def v20 (x : Pt) : Int := sc20 x.u x.q.toNat
theorem gPt_facts {x : Pt} (h : gPt x) : (-1000000 ≤ x.t ∧ x.t ≤ 1000000 ∧ 0 ≤ x.p ∧ x.p ≤ 16) ∧ (-1000000 ≤ x.u ∧ x.u ≤ 1000000 ∧ 0 ≤ x.q ∧ x.q ≤ 16) := by
  obtain ⟨h1, h2⟩ := h
  rw [goodDyB, decide_eq_true_eq] at h1 h2
  exact ⟨⟨h1.1, h1.2.1, h1.2.2.1, h1.2.2.2.1⟩, h2.1, h2.2.1, h2.2.2.1, h2.2.2.2.1⟩
theorem pa_a20 {x : Pt} (h : gPt x) : pa x = a20 x * 16 := sc_sc20 _ _ (by have := (gPt_facts h).1; omega)
theorem pv_v20 {x : Pt} (h : gPt x) : pv x = v20 x * 16 := sc_sc20 _ _ (by have := (gPt_facts h).2; omega)
theorem slk_20 {xs : List Pt} {k : Nat} (h : gPt (gp xs k)) (h' : gPt (gp xs (k + 1))) : slk xs k = slp (a20 (gp xs (k + 1)) - a20 (gp xs k)) (v20 (gp xs (k + 1)) - v20 (gp xs k)) := by
  unfold slk
  rw [pa_a20 h, pa_a20 h', pv_v20 h, pv_v20 h', ← Int.sub_mul, ← Int.sub_mul, slp_16]
theorem inParts_pt (x : Pt) (w : World) (h : gPt x) : Calls Try.prog 29 #[.agg #[.int .i64 x.t, .int .i64 x.p]] w fun e w' => e = .returned (.int .i64 (a20 x)) ∧ Below w.heap.size w w' := by
  obtain ⟨h1, h2⟩ := gPt_facts h
  have := inParts_any x.t x.p.toNat w (by omega) h1.1 h1.2.1
  rwa [show ((x.p.toNat : Nat) : Int) = x.p by omega] at this
theorem inParts_val (x : Pt) (w : World) (h : gPt x) : Calls Try.prog 29 #[.agg #[.int .i64 x.u, .int .i64 x.q]] w fun e w' => e = .returned (.int .i64 (v20 x)) ∧ Below w.heap.size w w' := by
  obtain ⟨h1, h2⟩ := gPt_facts h
  have := inParts_any x.u x.q.toNat w (by omega) h2.1 h2.2.1
  rwa [show ((x.q.toNat : Nat) : Int) = x.q by omega] at this
theorem a20_fits {x : Pt} (h : gPt x) : -1048576000000 ≤ a20 x ∧ a20 x ≤ 1048576000000 := sc20_fits _ _ (gPt_facts h).1.1 (gPt_facts h).1.2.1
theorem v20_fits {x : Pt} (h : gPt x) : -1048576000000 ≤ v20 x ∧ v20 x ≤ 1048576000000 := sc20_fits _ _ (gPt_facts h).2.1 (gPt_facts h).2.2.1

/-- The slope before point k, as the program keeps it. -/
def lst (xs : List Pt) (k : Nat) : Int := if k = 0 then 2 else slk xs (k - 1)
/-- What the program has seen up to k. -/
def UpTo (xs : List Pt) (k : Nat) : Prop := ∀ i, i < k → pa (gp xs i) < pa (gp xs (i + 1)) ∧ slk xs i ≠ 2 ∧ slk xs i ≠ lst xs i
theorem slp_out (R V : Int) : slp R V = 2 ∨ slp R V = 0 ∨ slp R V = 1 ∨ slp R V = -1 := by
  unfold slp
  by_cases h1 : V = 0
  · rw [if_pos h1]; omega
  · rw [if_neg h1]
    by_cases h2 : V = R
    · rw [if_pos h2]; omega
    · rw [if_neg h2]
      by_cases h3 : V = -R
      · rw [if_pos h3]; omega
      · rw [if_neg h3]; omega
theorem goodW_of {xs : List Pt} (h1 : 1 ≤ xs.length) (h2 : xs.length ≤ 40) (h3 : (gp xs 0).t = 0 ∧ (gp xs 0).p = 0) (h4 : ∀ i, i < xs.length → gPt (gp xs i)) (hu : UpTo xs (xs.length - 1)) :
    GoodW xs ↔ lst xs (xs.length - 1) ≠ 0 := by
  constructor
  · rintro ⟨-, -, -, -, -, h⟩
    unfold lst
    split
    · decide
    · have := (h (xs.length - 1 - 1) (by omega)).2
      unfold nxt at this
      rwa [if_neg (by omega)] at this
  · intro hl
    refine ⟨h1, h2, h3, h4, fun i hi => (hu i (by omega)).1, fun i hi => ⟨(hu i (by omega)).2.1, ?_⟩⟩
    unfold nxt
    split
    · next h =>
      have := (hu (i + 1) (by omega)).2.2
      unfold lst at this
      rw [if_neg (by omega)] at this
      exact fun e => this (by rw [← e]; rfl)
    · next h =>
      unfold lst at hl
      rw [if_neg (by omega), show xs.length - 1 - 1 = i by omega] at hl
      exact hl
theorem goodW_no {xs : List Pt} {k : Nat} (hk : k + 1 < xs.length) (h : ¬ (pa (gp xs k) < pa (gp xs (k + 1)) ∧ slk xs k ≠ 2 ∧ slk xs k ≠ lst xs k)) : ¬ GoodW xs := by
  rintro ⟨-, -, -, -, h5, h6⟩
  refine h ⟨h5 k hk, (h6 k hk).1, ?_⟩
  unfold lst
  split
  · exact (h6 k hk).1
  · have := (h6 (k - 1) (by omega)).2
    unfold nxt at this
    rw [if_pos (by omega), show k - 1 + 1 = k by omega] at this
    exact fun e => this e.symm
end Go.Proofs.Ytidfbbegjpfjpaa
