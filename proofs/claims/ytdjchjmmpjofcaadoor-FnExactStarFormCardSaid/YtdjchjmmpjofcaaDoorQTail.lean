/- A region that draws its order: its first operations quiet in a class of worlds, the last ones in the text's order. Conditions: none. -/
import Derived.StillTail
import Derived.Deep.Quiet
import Derived.Test.YtdjchjmmpjofcaaDoorLib
namespace Go.Proofs.YtdjchjmmpjofcaaDoor
open Go.RowKit
set_option linter.unusedVariables false

/-- f operations more, each one below n, in whatever order, each quiet in C; then L. -/
def headQ (P : Program) (ops : Array Oper) (C : World → Prop) (n : Nat) (L : Array Bool → Act → Prop) : Nat → Array Bool → Act → Prop
  | 0, b, a => L b a
  | f + 1, b, a => Region.ready .any ops b ≠ [] ∧ ∀ i, i ∈ Region.ready .any ops b → i < n ∧ qOp P ops C i (headQ P ops C n L f (b.setIfInBounds i true)) a

theorem headQ_any {P : Program} {ops : Array Oper} {C : World → Prop} {n g : Nat} {L : Array Bool → Act → Prop} {Q : Exit → Act → World → Prop} (hL : ∀ b a w, C w → L b a → wpAny P .any ops Q g b a w) (f : Nat) :
    ∀ (b : Array Bool) (a : Act) (w : World), C w → headQ P ops C n L f b a → wpAny P .any ops Q (f + g) b a w := by
  induction f with
  | zero => intro b a w hC h; rw [Nat.zero_add]; exact hL b a w hC h
  | succ f ih =>
    intro b a w hC h
    have e : f + 1 + g = (f + g) + 1 := by omega
    rw [e]
    refine ⟨fun h0 => absurd h0 h.1, fun i hi => ?_⟩
    exact wpOp_of_qOp hC (fun a' w' hC' h' => ih _ a' w' hC' h') (h.2 i hi).2

/-- An operation of the head that may come up is taken first. -/
theorem headQ_take {P : Program} {ops : Array Oper} {C : World → Prop} {n i : Nat} {oi : Oper} {v : Value} {L : Array Bool → Act → Prop} (hi : ops[i]? = some oi) (hsel : Region.noSelect ops = true)
    (hs : Region.sinkB .any ops n = true) (hc : Region.chainB .any ops n = true) (hn : n < ops.size) (hin : i < n) (hend : ∀ b a, L b a → ∀ j ∈ Region.ready .any ops b, n ≤ j) (f : Nat) :
    ∀ (b : Array Bool) (a : Act), HeadInv .any ops n b →
      (∀ j oj, ops[j]? = some oj → j ≠ i → b.getD j true = false → (∀ e ∈ oj.after, Region.binds .any e = true → e.on ≠ i) → oi.apart ops oj = true) →
      i ∈ Region.ready .any ops b → YieldsIn P ops C oi v a → headQ P ops C n L f (b.setIfInBounds i true) (a.put oi.dst v) → headQ P ops C n L (f + 1) b a := by
  have hsel' := Region.noSelect_spec hsel
  induction f with
  | zero =>
    intro b a inv _ hr hy H
    have hun := (mem_ready.1 hr).1
    constructor
    · intro h; rw [h] at hr; cases hr
    · intro j hj
      by_cases hji : j = i
      · subst hji; exact ⟨hin, hy.qOp hi H⟩
      · have hjn : j < n := by
          rcases Nat.lt_or_ge j n with h | h
          · exact h
          · exact absurd hj (tail_waits hs hc hn inv _ i rfl hin hun j h)
        have := hend _ _ H j (ready_mono hj hji)
        omega
  | succ f ih =>
    intro b a inv hfree hr hy H
    have hun := (mem_ready.1 hr).1
    constructor
    · intro h; rw [h] at hr; cases hr
    · intro j hj
      have hjn : j < n := by
        rcases Nat.lt_or_ge j n with h | h
        · exact h
        · exact absurd hj (tail_waits hs hc hn inv _ i rfl hin hun j h)
      refine ⟨hjn, ?_⟩
      by_cases hji : j = i
      · subst hji; exact hy.qOp hi H
      · obtain ⟨hjun, oj, hoj, hall⟩ := mem_ready.1 hj
        have hnot : ∀ e ∈ oj.after, Region.binds .any e = true → e.on ≠ i := fun e he hb heq => by
          have h1 := hall e he hb
          rw [heq, getD_both hun] at h1
          cases h1
        have h2 := qOp_put hoj (hfree j oj hoj hji hjun hnot) (fun cs c => hsel' i oi cs c hi) (fun cs c => hsel' j oj cs c hoj) hy (H.2 j (ready_mono hj hji)).2
        refine qOp_mono (fun a' h3 => ?_) h2
        refine ih _ a' (inv.set hj hjn) (fun k ok hk hki hkun hkno => hfree k ok hk hki ?_ hkno) (ready_mono hr (Ne.symm hji)) h3.1 ?_
        · by_cases hjk : j = k
          · subst hjk; exact hjun
          · rwa [getD_set_ne true hjk] at hkun
        · rw [Array.setIfInBounds_comm _ _ hji]; exact h3.2

theorem headQ_lex {P : Program} {ops : Array Oper} {C : World → Prop} {n g : Nat} {Q : Act → Prop} (hsel : Region.noSelect ops = true) (hs : Region.sinkB .any ops n = true) (hc : Region.chainB .any ops n = true) (hn : n < ops.size) (l : List Oper) :
    ∀ (k : Nat) (b : Array Bool) (a : Act), (∀ j, j < l.length → l[j]? = ops[k + j]?) → k + l.length = n → HeadInv .any ops n b → Region.lexHead .any ops g l.length k b = true → wpQuiet P ops C Q l a →
    headQ P ops C n (fun b' a' => Region.seqB .any ops g n b' = true ∧ Q a') l.length b a := by
  induction l with
  | nil =>
    intro k b a _ hk _ hB h
    have e : k = n := by simpa using hk
    rw [e] at hB
    exact ⟨hB, h⟩
  | cons o l ih =>
    intro k b a hl hk inv hB h
    have h0 : ops[k]? = some o := by have := hl 0 (by simp); simpa using this.symm
    have hB2 : ((Region.ready .any ops b).contains k && Region.free .any ops b k && Region.lexHead .any ops g l.length (k + 1) (b.setIfInBounds k true)) = true := hB
    rw [Bool.and_eq_true, Bool.and_eq_true] at hB2
    have hkn : k < n := by rw [List.length_cons] at hk; omega
    have hr : k ∈ Region.ready .any ops b := by simpa using hB2.1.1
    have hq : qOp P ops C k (wpQuiet P ops C Q l) a := by unfold qOp; simp only [h0]; exact h
    obtain ⟨v, hy, hK⟩ := yieldsIn_of_qOp h0 hq
    refine headQ_take h0 hsel hs hc hn hkn (fun b' a' hL => seqB_ready hL.1) l.length b a inv (Region.free_spec h0 hB2.1.2) hr hy ?_
    refine ih (k + 1) _ _ (fun j hj => ?_) (by rw [List.length_cons] at hk; omega) (inv.set hr hkn) hB2.2 hK
    have := hl (j + 1) (by rw [List.length_cons]; omega)
    rw [show k + 1 + j = k + (j + 1) by omega, ← this]
    rfl

theorem wp_region_quiet_tail {P : Program} {id : Nat} {Q : Exit → Act → World → Prop} {a : Act} {w : World} {l : List Oper} (C : World → Prop) (n : Nat) (hC : C { w with drawn := w.drawn + 1 }) (hm : P.follows .mixedOrders = true) (hB : Region.lexTailB .any l.toArray n = true)
    (h : wpQuiet P l.toArray C (fun a' => ∀ w', C w' → wpList P l.toArray Q (l.drop n) a' w') (l.take n) a) : (Code.region id l.toArray true).wp P Q a w := by
  unfold Region.lexTailB at hB
  rw [Bool.and_eq_true, Bool.and_eq_true, Bool.and_eq_true, Bool.and_eq_true, decide_eq_true_eq] at hB
  obtain ⟨⟨⟨⟨hsel, hn⟩, hs⟩, hc⟩, hlex⟩ := hB
  have hz : l.toArray.size = l.length := by simp
  have htl : (l.take n).length = n := by rw [List.length_take]; omega
  have hdl : (l.drop n).length = l.toArray.size - n := by rw [List.length_drop, hz]
  have inv0 : HeadInv .any l.toArray n (Array.replicate l.toArray.size false) :=
    ⟨by simp, fun j oj _ hl => (by rw [getD_replicate_false] at hl; cases hl), fun t _ ht => getD_in (by simpa using ht) (getD_replicate_false _ _)⟩
  have H := headQ_lex (g := l.toArray.size - n) hsel hs hc hn (l.take n) 0 _ a (fun j hj => by
    rw [htl] at hj
    rw [List.getElem?_take_of_lt hj, Nat.zero_add]; simp) (by omega) inv0 (by rw [htl]; exact hlex) h
  rw [htl] at H
  refine wp_region_any hm ?_
  have H2 := headQ_any (Q := Q) (g := l.toArray.size - n) (fun b a' w' hC' hL => by
    have := wpAny_of_seq (md := .any) (Q' := Q) (l.drop n) n b a' w' (fun j => by rw [List.getElem?_drop]; simp) (by rw [hdl]; exact hL.1) (hL.2 w' hC')
    rwa [hdl] at this) n _ a _ hC H
  rwa [show n + (l.toArray.size - n) = l.toArray.size by omega] at H2
/-- At the class 'all blocks that were there are as they were'. -/
theorem wp_region_inv_tail {P : Program} {id : Nat} {Q : Exit → Act → World → Prop} {a : Act} {w : World} {l : List Oper} (I : World → Prop) (n : Nat) (h0 : I { w with drawn := w.drawn + 1 })
    (hm : P.follows .mixedOrders = true) (hB : Region.lexTailB .any l.toArray n = true)
    (h : wpQuiet P l.toArray (fun w' => ∃ x : Wd I, w' = inst I x) (fun a' => ∀ w', (∃ x : Wd I, w' = inst I x) → wpList P l.toArray Q (l.drop n) a' w') (l.take n) a) : (Code.region id l.toArray true).wp P Q a w :=
  wp_region_quiet_tail (fun w' => ∃ x : Wd I, w' = inst I x) n ⟨⟨_, h0⟩, rfl⟩ hm hB h
end Go.Proofs.YtdjchjmmpjofcaaDoor
