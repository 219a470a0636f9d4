/- What is left of a grid behind a part; writing a cell. Conditions: none. -/
import Derived.Test.YtadljglcbieifaaDoorPtI
namespace Go.Proofs.YtadljglcbieifaaDoor
open Go.RowKit
set_option linter.unusedVariables false

def setV (M : List (List Bool)) (i k : Nat) (x : Bool) : List (List Bool) := M.set i ((M.getD i []).set k x)
theorem grid_setV {R C : Nat} {M : List (List Bool)} (h : Grid R C M) (i k : Nat) (hi : i < R) (x : Bool) : Grid R C (setV M i k x) := by
  obtain ⟨h1, h2⟩ := h
  refine ⟨by rw [setV, List.length_set, h1], fun j hj => ?_⟩
  unfold setV
  by_cases e : i = j
  · subst e
    rw [getD_set_same _ _ (by omega), List.length_set]
    exact h2 i hi
  · rw [getD_set_ne _ _ _ e]
    exact h2 j hj
theorem get_setV {R C : Nat} {M : List (List Bool)} (h : Grid R C M) (i k : Nat) (hi : i < R) (hk : k < C) (x : Bool) (j l : Nat) : getM (setV M i k x) j l = if j = i ∧ l = k then x else getM M j l := by
  obtain ⟨h1, h2⟩ := h
  unfold getM setV
  by_cases e : i = j
  · subst e
    rw [getD_set_same _ _ (by omega)]
    by_cases e2 : k = l
    · subst e2
      rw [getD_set_same _ _ (by rw [h2 i hi]; exact hk)]
      simp
    · rw [getD_set_ne _ _ _ e2, if_neg (by omega)]
  · rw [getD_set_ne _ _ _ e, if_neg (by omega)]
theorem bools_setV (l : List Bool) (k : Nat) (x : Bool) : (bools l).set k (.bool x) = bools (l.set k x) := by
  unfold bools
  rw [List.map_set]
/-- A cell is written. -/
theorem GrC.put {w : World} {lo R C : Nat} {v : Value} {cs : List Value} {M : List (List Bool)} (h : GrC w lo v cs M) (hM : Grid R C M) {i k g c : Nat} (hi : i < R) (hk : k < C) (hc : cs[i]? = some (.slice (some ⟨g, 0, none⟩) C c)) (x : Bool) :
    GrC (w.setCell ⟨g, k, none⟩ (.bool x)) lo v cs (setV M i k x) ∧ Rows w (w.setCell ⟨g, k, none⟩ (.bool x)) cs := by
  have hcl := h.len
  obtain ⟨h1, h2, h3⟩ := h
  have hrl : (gb M i).length = C := hM.2 i hi
  refine ⟨⟨h1.far _ _ (h3 i _ g hc rfl), ⟨?_, fun j hj => ?_, h2.2.2⟩, h3⟩, rfl, rfl, rfl, by simp, fun b hb hn => Below.heap_setCell _ _ _ _ fun e => hn i _ hc (by rw [e]; rfl)⟩
  · rw [h2.1, List.length_map, List.length_map, setV, List.length_set]
  · rw [List.length_map, setV, List.length_set] at hj
    obtain ⟨Aj, cj, k1, k2⟩ := h2.2.1 j (by rw [List.length_map]; exact hj)
    by_cases e : i = j
    · subst e
      rw [hc] at k1
      injection k1 with k1
      rw [gc_bools] at k2 k1
      have eg : gb (setV M i k x) i = (gb M i).set k x := by
        unfold setV
        exact getD_set_same _ _ hj _ _
      rw [gc_bools, eg, bools_len, List.length_set, hrl]
      rw [bools_len, hrl] at k1
      have k3 : w.ownsRow lo 4 1 (.slice (some ⟨g, 0, none⟩) C c) C (bools (gb M i)) := by
        unfold Own at k2
        rw [bools_len, hrl] at k2
        rw [k1]; exact k2
      have k4 := (World.ownsRow.stored k3 k (.bool x)).1
      refine ⟨some ⟨g, 0, none⟩, c, hc, ?_⟩
      rw [bools_setV] at k4
      unfold Own
      rw [bools_len, List.length_set, hrl]
      exact k4
    · have eg : gc ((setV M i k x).map bools) j = gc (M.map bools) j := by
        rw [gc_bools, gc_bools]
        unfold setV
        exact congrArg bools (getD_set_ne M i j e _ [])
      rw [eg]
      exact ⟨Aj, cj, k1, k2.far _ _ fun he => e (h2.2.2 i j _ _ g hc k1 rfl he)⟩

/-- What is left: the free cells that are not marked. -/
def LeftOf (ss : List ByteArray) (M G : List (List Bool)) : Prop := Grid ss.length (gs ss 0).size G ∧ ∀ a b : Nat, getM G a b = (frI ss a b && !getM M a b)
theorem frG_iff {ss : List ByteArray} {M G : List (List Bool)} (hR : 1 ≤ ss.length) (h : LeftOf ss M G) (p : Int × Int) : frP (frG G) p ↔ frP (frI ss) p ∧ ¬ mk M p := by
  obtain ⟨x, y⟩ := p
  unfold frP
  constructor
  · intro hp
    obtain ⟨h1, h2, h3, h4⟩ := inR_frG h.1 (by omega) x y hp
    obtain ⟨a, rfl⟩ := Int.eq_ofNat_of_zero_le h1
    obtain ⟨b, rfl⟩ := Int.eq_ofNat_of_zero_le h3
    have hg : getM G a b = true := by
      unfold frG at hp
      simp at hp
      exact hp.2
    rw [h.2, Bool.and_eq_true, Bool.not_eq_true'] at hg
    exact ⟨hg.1, fun hm => by have := hm.2.2; simp at this; rw [this] at hg; exact absurd hg.2 (by simp)⟩
  · intro ⟨hp, hm⟩
    obtain ⟨h1, h2, h3, h4⟩ := inR_frI (ss := ss) x y hp
    obtain ⟨a, rfl⟩ := Int.eq_ofNat_of_zero_le h1
    obtain ⟨b, rfl⟩ := Int.eq_ofNat_of_zero_le h3
    have hg : getM G a b = true := by
      rw [h.2, Bool.and_eq_true, Bool.not_eq_true']
      refine ⟨hp, ?_⟩
      cases hc : getM M a b
      · rfl
      · exact absurd ⟨by omega, by omega, by simpa using hc⟩ hm
    show frG G a b = true
    unfold frG
    rw [h.1.1, show (gb G 0).length = (gs ss 0).size from h.1.2 0 (by omega)]
    simp
    exact ⟨⟨by omega, by omega⟩, hg⟩
theorem mk_nat {M : List (List Bool)} {a b : Nat} : mk M ((a : Int), (b : Int)) ↔ getM M a b = true := by
  unfold mk
  simp
/-- A part from what is left is the part. -/
theorem left_comp {ss : List ByteArray} {M G : List (List Bool)} (hR : 1 ≤ ss.length) (hM : Grid ss.length (gs ss 0).size M) (hc : Closed (frI ss) M) (h : LeftOf ss M G) (k j : Nat) (hm : getM M k j = false) :
    flood (frG G) (noM ss.length (gs ss 0).size) k j = flood (frI ss) (noM ss.length (gs ss 0).size) k j :=
  comp_same (inR_frI (ss := ss)) (inR_frG h.1 (by omega)) hM hc (frG_iff hR h) k j (fun hh => by rw [mk_nat] at hh; rw [hm] at hh; cases hh)
theorem left_next {ss : List ByteArray} {M G G' : List (List Bool)} (hR : 1 ≤ ss.length) (hM : Grid ss.length (gs ss 0).size M) (hc : Closed (frI ss) M) (h : LeftOf ss M G) (k j : Nat) (hm : getM M k j = false)
    (hG' : Grid ss.length (gs ss 0).size G') (hg : ∀ a b : Nat, getM G' a b = (getM G a b && !getM (flood (frI ss) (noM ss.length (gs ss 0).size) k j) a b)) : LeftOf ss (flood (frI ss) M k j) G' := by
  refine ⟨hG', fun a b => ?_⟩
  have := comp_left (inR_frI (ss := ss)) (inR_frG h.1 (by omega)) hM hc (frG_iff hR h) (k : Int) (j : Int) (fun hh => by rw [mk_nat] at hh; rw [hm] at hh; cases hh) ((a : Int), (b : Int))
  rw [left_comp hR hM hc h k j hm, mk_nat, mk_nat, frG_iff hR h, mk_nat] at this
  rw [hg, h.2]
  unfold frP at this
  simp only at this
  cases x1 : frI ss a b <;> cases x2 : getM M a b <;> cases x3 : getM (flood (frI ss) (noM ss.length (gs ss 0).size) k j) a b <;> cases x4 : getM (flood (frI ss) M k j) a b <;> simp_all
theorem left_first {ss : List ByteArray} (hb : boardP ss) : LeftOf ss (noM ss.length (gs ss 0).size) (brows ss) := by
  have hl : ∀ i, i < ss.length → (brows ss).getD i [] = brow (gs ss i) := fun i hi => by simp [brows, gs, hi]
  have hG : Grid ss.length (gs ss 0).size (brows ss) := ⟨by simp [brows], fun i hi => by rw [hl i hi, brow_len]; exact (hb.2.2 i hi).1⟩
  refine ⟨hG, fun a b => ?_⟩
  rw [noM_get, Bool.not_false, Bool.and_true]
  by_cases h : a < ss.length ∧ b < (gs ss 0).size
  · have hsz := (hb.2.2 a h.1).1
    rw [frI_in hb h.1 (by omega), ← brow_fr h.1 (by omega)]
    rfl
  · rw [get_out hG a b h]
    cases hf : frI ss a b
    · rfl
    · obtain ⟨h1, h2, h3, h4⟩ := inR_frI (ss := ss) _ _ hf
      exact absurd ⟨by omega, by omega⟩ h
end Go.Proofs.YtadljglcbieifaaDoor
