/- A position is short: the plain bound. Conditions: none. -/
import Derived.Test.YtpepkpikeggceaaDoorPos0
namespace Go.Proofs.YtpepkpikeggceaaDoor
open Go.RowKit
set_option linter.unusedVariables false

theorem WD.tot {s : ByteArray} {n : Nat} : ∀ {f : Nat} {ws : List ByteArray}, WD s f ws → (∀ x, x ∈ ws → x.size ≤ n) → s.size - f + 3 ≤ (n + 3) * ws.length := by
  intro f ws h
  induction h with
  | last f hf h =>
    intro hn
    have := hn _ List.mem_cons_self
    rw [ByteArray.size_extract] at this
    rw [List.length_singleton, Nat.mul_one]
    omega
  | more f i ws hf hi h ha hw ih =>
    intro hn
    have h1 := hn _ List.mem_cons_self
    rw [ByteArray.size_extract] at h1
    have h2 := ih fun x hx => hn x (List.mem_cons_of_mem _ hx)
    rw [List.length_cons, Nat.mul_add, Nat.mul_one]
    omega
theorem pos_long {s : ByteArray} (h : 600 < s.size) : posB s = false ∧ posL s = [] := by
  have hn : (s.toList == noneL) = false := by
    rw [ByteArray.toList_eq, beq_eq_false_iff_ne]
    intro e
    have := data_len s
    rw [e] at this
    simp [noneL] at this
    omega
  have hb : posB s = false := by
    rw [Bool.eq_false_iff]
    intro hp
    rw [posB_mk hn, Bool.and_eq_true] at hp
    have hl := of_decide_eq_true hp.1
    have h2 := (words_at s).tot (n := 78) fun x hx => sg_short (List.all_eq_true.1 hp.2 x hx)
    have h3 : (78 + 3) * (words s).length ≤ (78 + 3) * 6 := Nat.mul_le_mul_left _ hl
    omega
  exact ⟨hb, by unfold posL; rw [hn, hb]; rfl⟩
end Go.Proofs.YtpepkpikeggceaaDoor
