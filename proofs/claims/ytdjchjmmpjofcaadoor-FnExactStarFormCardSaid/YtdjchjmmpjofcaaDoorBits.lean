/- Bits of small integers, rows of signs. Conditions: none. -/
import Derived.Test.YtdjchjmmpjofcaaDoorMem
import Derived.Laws.Bits
import Derived.StillTailTactics
namespace Go.Proofs.YtdjchjmmpjofcaaDoor
open Go.RowKit
set_option linter.unusedVariables false

theorem eight (d : Int) (h : 0 ≤ d ∧ d ≤ 7) : d = 0 ∨ d = 1 ∨ d = 2 ∨ d = 3 ∨ d = 4 ∨ d = 5 ∨ d = 6 ∨ d = 7 := by omega
theorem band1 (d : Int) (h : 0 ≤ d ∧ d ≤ 7) : bits .and .i64 d 1 = d % 2 := by rcases eight d h with rfl | rfl | rfl | rfl | rfl | rfl | rfl | rfl <;> decide
theorem band2 (d : Int) (h : 0 ≤ d ∧ d ≤ 7) : bits .and .i64 d 2 = d / 2 % 2 * 2 := by rcases eight d h with rfl | rfl | rfl | rfl | rfl | rfl | rfl | rfl <;> decide
theorem band4 (d : Int) (h : 0 ≤ d ∧ d ≤ 7) : bits .and .i64 d 4 = d / 4 % 2 * 4 := by rcases eight d h with rfl | rfl | rfl | rfl | rfl | rfl | rfl | rfl <;> decide
theorem bxor (a b : Nat) (ha : a < 4294967296) (hb : b < 4294967296) : bits .xor .i64 (a : Int) (b : Int) = ((a ^^^ b : Nat) : Int) := by
  have hx : a ^^^ b < 2 ^ 32 := Nat.xor_lt_two_pow (by omega) (by omega)
  have h1 : (BitVec.ofInt 64 (a : Int)).toNat = a := by simp; omega
  have h2 : (BitVec.ofInt 64 (b : Int)).toNat = b := by simp; omega
  show IntKind.i64.wrap ((BitVec.ofInt 64 (a : Int) ^^^ BitVec.ofInt 64 (b : Int)).toNat : Int) = _
  rw [BitVec.toNat_xor, h1, h2]
  exact IntWalk.i64_in _ (by omega)

/-- Block g is a row of n signs: sign x is true just where Q x. -/
def SeenIs (w : World) (g n : Nat) (t : TypeId) (Q : Nat → Prop) : Prop :=
  ∃ bs : List Bool, bs.length = n ∧ Blk w g t (bs.map Value.bool).toArray ∧ ∀ x, x < n → (bs.getD x false = true ↔ Q x)
theorem SeenIs.no {w : World} {g n : Nat} {t : TypeId} {Q : Nat → Prop} (h : SeenIs w g n t Q) (x : Nat) (hx : x < n) (hq : ¬ Q x) : w.cell? ⟨g, x, none⟩ = some (.bool false) := by
  obtain ⟨bs, hl, hb, hh⟩ := h
  rw [hb.cell]
  have : bs.getD x false = false := by
    cases hv : bs.getD x false
    · rfl
    · exact absurd ((hh x hx).1 hv) hq
  rw [List.getD_eq_getElem?_getD] at this
  simp [hl, hx] at this ⊢
  exact this
theorem SeenIs.yes {w : World} {g n : Nat} {t : TypeId} {Q : Nat → Prop} (h : SeenIs w g n t Q) (x : Nat) (hx : x < n) (hq : Q x) : w.cell? ⟨g, x, none⟩ = some (.bool true) := by
  obtain ⟨bs, hl, hb, hh⟩ := h
  rw [hb.cell]
  have := (hh x hx).2 hq
  rw [List.getD_eq_getElem?_getD] at this
  simp [hl, hx] at this ⊢
  exact this
theorem SeenIs.some_ {w : World} {g n : Nat} {t : TypeId} {Q : Nat → Prop} (h : SeenIs w g n t Q) (x : Nat) (hx : x < n) : ∃ b, w.cell? ⟨g, x, none⟩ = some (.bool b) := by
  by_cases hq : Q x
  · exact ⟨true, h.yes x hx hq⟩
  · exact ⟨false, h.no x hx hq⟩
theorem SeenIs.frozen {w : World} {g n : Nat} {t : TypeId} {Q : Nat → Prop} (h : SeenIs w g n t Q) (x : Nat) : w.frozen? ⟨g, x, none⟩ = false := by
  obtain ⟨bs, hl, hb, hh⟩ := h
  exact hb.frozen x
theorem SeenIs.congr {w : World} {g n : Nat} {t : TypeId} {Q R : Nat → Prop} (h : SeenIs w g n t Q) (hq : ∀ x, x < n → (Q x ↔ R x)) : SeenIs w g n t R := by
  obtain ⟨bs, hl, hb, hh⟩ := h
  exact ⟨bs, hl, hb, fun x hx => (hh x hx).trans (hq x hx)⟩
theorem SeenIs.set {w : World} {g n : Nat} {t : TypeId} {Q : Nat → Prop} (h : SeenIs w g n t Q) (y : Nat) : SeenIs (w.setCell ⟨g, y, none⟩ (.bool true)) g n t (fun x => Q x ∨ x = y) := by
  obtain ⟨bs, hl, hb, hh⟩ := h
  refine ⟨bs.set y true, by simpa using hl, ?_, fun x hx => ?_⟩
  · have := hb.set y (.bool true)
    rwa [List.setIfInBounds_toArray, ← List.map_set] at this
  · by_cases hxy : x = y
    · subst hxy
      simp [List.getD, hl, hx]
    · have : (bs.set y true).getD x false = bs.getD x false := by
        simp [List.getD, Ne.symm hxy]
      rw [this, hh x hx]
      simp [hxy]
theorem SeenIs.far {w : World} {g n : Nat} {t : TypeId} {Q : Nat → Prop} (h : SeenIs w g n t Q) {p : Addr} (hp : g ≠ p.block) (u : Value) : SeenIs (w.setCell p u) g n t Q := by
  obtain ⟨bs, hl, hb, hh⟩ := h
  exact ⟨bs, hl, hb.far hp u, hh⟩
theorem SeenIs.drew {w : World} {g n : Nat} {t : TypeId} {Q : Nat → Prop} (h : SeenIs w g n t Q) (k : Nat) : SeenIs (w.drewN k) g n t Q := h
theorem SeenIs.new (w : World) (t : TypeId) (n : Nat) : SeenIs (w.alloc (.cells (Array.replicate n (.bool false)) t)) w.heap.size n t (fun _ => False) := by
  refine ⟨List.replicate n false, by simp, ?_, fun x hx => by simp [List.getD, hx]⟩
  have := Blk.new w t (Array.replicate n (.bool false))
  rwa [show (List.map Value.bool (List.replicate n false)).toArray = Array.replicate n (.bool false) by simp]


theorem still_of_quiet {P : Program} {ops : Array Oper} {w : World} {Q : Act → Prop} : ∀ (l : List Oper) (a : Act), wpQuiet P ops (fun w' => w' = w) Q l a → wpStill P ops w Q l a
  | [], _, h => h
  | o :: l, a, h => by
    unfold wpQuiet at h
    unfold wpStill
    split
    · rename_i hw
      rw [if_pos hw] at h
      obtain ⟨v, h1, h2⟩ := h
      have h3 := h1 w rfl
      unfold Oper.quietAt at h3
      unfold Oper.still
      have h2' := still_of_quiet l _ h2
      generalize (execOp a.eval o).run P w = r at *
      cases r with
      | ok n w' =>
        cases n <;> simp only [Oper.quietUpon] at h3 <;> simp only [Oper.stillUpon]
        case value u =>
          obtain ⟨e1, e2⟩ := h3
          exact ⟨e1, by rw [e2]; exact h2'⟩
        case skip =>
          obtain ⟨e1, e2⟩ := h3
          exact ⟨e1, by rw [← e2]; exact h2'⟩
        case enter f args =>
          obtain ⟨e1, hc⟩ := h3
          exact ⟨e1, v, hc, h2'⟩
      | halt x w' => simp only [Oper.quietUpon] at h3
    · rename_i hw
      rw [if_neg hw] at h
      exact still_of_quiet l _ h
/-- A region that draws its order: reads first, then the last operations in the text's order. -/
theorem wp_region_tail {P : Program} {id : Nat} {Q : Exit → Act → World → Prop} {a : Act} {w : World} {l : List Oper} (n : Nat) (hm : P.follows .mixedOrders = true) (hB : Region.lexTailB .any l.toArray n = true)
    (h : wpQuiet P l.toArray (fun w' => w' = w.drew) (fun a' => wpList P l.toArray Q (l.drop n) a' w.drew) (l.take n) a) : (Code.region id l.toArray true).wp P Q a w :=
  wp_region_still_tail n hm hB (still_of_quiet _ _ h)
end Go.Proofs.YtdjchjmmpjofcaaDoor
