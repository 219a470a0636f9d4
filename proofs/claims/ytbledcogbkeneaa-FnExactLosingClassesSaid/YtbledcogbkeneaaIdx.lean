/- The place of a row of bools among rows, by contract. Conditions: none. -/
import Derived.Test.YtbledcogbkeneaaEqB
import Derived.Test.YtbledcogbkeneaaMemAt
import Derived.Lib.SliceRun
namespace Go.Proofs.Ytbledcogbkeneaa
open Go.RowKit
set_option linter.unusedVariables false

/-- The i-th row of bools. -/
def bl (SS : List (List Bool)) (i : Nat) : List Bool := SS.getD i []
theorem bl_lt {SS : List (List Bool)} {i : Nat} (h : i < SS.length) : bl SS i = SS[i] := by simp [bl, h]
/-- The cells are slices that read as rows of bools. -/
def BlAt (w : World) (B : Nat) (cs : List Value) (SS : List (List Bool)) : Prop :=
  cs.length = SS.length ∧ ∀ i, i < SS.length → ∃ Ai ci, cs[i]? = some (.slice Ai (bl SS i).length ci) ∧ RdB w B Ai ci (bl SS i)
theorem BlAt.below {w w' : World} {B B' : Nat} {cs : List Value} {SS : List (List Bool)} (h : BlAt w B cs SS) (hb : Below B' w w') (hB : B ≤ B') : BlAt w' B cs SS :=
  ⟨h.1, fun i hi => by obtain ⟨Ai, ci, h1, h2⟩ := h.2 i hi; exact ⟨Ai, ci, h1, h2.below hb hB⟩⟩
theorem BlAt.more {w : World} {B B' : Nat} {cs : List Value} {SS : List (List Bool)} (h : BlAt w B cs SS) (hB : B ≤ B') : BlAt w B' cs SS :=
  ⟨h.1, fun i hi => by obtain ⟨Ai, ci, h1, h2⟩ := h.2 i hi; exact ⟨Ai, ci, h1, h2.more hB⟩⟩
theorem BlAt.nil {w : World} {B : Nat} : BlAt w B [] [] := ⟨rfl, fun i hi => absurd hi (by simp)⟩
theorem BlAt.snoc {w : World} {B : Nat} {cs : List Value} {SS : List (List Bool)} {A : Option Addr} {c : Nat} {s : List Bool} (h : BlAt w B cs SS) (hs : RdB w B A c s) : BlAt w B (cs ++ [.slice A s.length c]) (SS ++ [s]) := by
  refine ⟨by simp [h.1], fun i hi => ?_⟩
  rw [List.length_append, List.length_singleton] at hi
  by_cases hl : i < SS.length
  · obtain ⟨Ai, ci, h1, h2⟩ := h.2 i hl
    have e : bl (SS ++ [s]) i = bl SS i := by simp [bl, List.getElem?_append_left hl]
    rw [e]
    exact ⟨Ai, ci, by rw [List.getElem?_append_left (by rw [h.1]; exact hl)]; exact h1, h2⟩
  · obtain rfl : i = SS.length := by omega
    have e : bl (SS ++ [s]) SS.length = s := by simp [bl]
    rw [e]
    exact ⟨A, c, by rw [List.getElem?_append_right (by rw [h.1]; omega), h.1, Nat.sub_self]; rfl, hs⟩
theorem BlAt.one {w : World} {B : Nat} {cs : List Value} {SS : List (List Bool)} (h : BlAt w B cs SS) : ∀ u ∈ cs, u.oneCell' = true := by
  intro u hu
  obtain ⟨i, hi, rfl⟩ := List.getElem_of_mem hu
  obtain ⟨Ai, ci, h1, _⟩ := h.2 i (by rw [← h.1]; exact hi)
  rw [List.getElem?_eq_getElem hi] at h1
  injection h1 with h1
  rw [h1]; rfl

set_option maxHeartbeats 400000 in
theorem eqs1_any (As A : Option Addr) (cs c g : Nat) (s t : List Bool) (w : World) (B : Nat) (hB : B ≤ w.heap.size) (hc : w.cell? ⟨g, 0, none⟩ = some (.slice As s.length cs)) (h : RdB w B As cs s) (h' : RdB w B A c t) :
    Calls Try.prog 58 #[.slice A t.length c, .pointer (some ⟨g, 0, none⟩)] w fun e w' => e = .returned (.bool (decide (s = t))) ∧ Below w.heap.size w w' := by
  have HE := Lib.hid (equalBl_any As A cs c s t w B hB h h')
  go_enter Try.func58, Try.ntmps58
  go_wp2_with fail
  ((with_reducible refine (HE.out).mono ?_); rintro e w1 ⟨rfl, hb1⟩)
  go_wp2
  go_ret
  exact ⟨rfl, hb1⟩

/-- n is the first place of s among the rows, -1 if there is none. -/
def ixB (s : List Bool) (SS : List (List Bool)) (n : Int) : Prop :=
  (n = -1 ∧ ∀ j, j < SS.length → s ≠ bl SS j) ∨ ∃ i : Nat, n = i ∧ i < SS.length ∧ s = bl SS i ∧ ∀ j, j < i → s ≠ bl SS j

set_option maxHeartbeats 800000 in
theorem index_any (As A : Option Addr) (cs c g : Nat) (s : List Bool) (SS : List (List Bool)) (ds : List Value) (w : World) (B : Nat) (hB : B ≤ w.heap.size) (hg : g < w.heap.size) (hc : w.cell? ⟨g, 0, none⟩ = some (.slice As s.length cs)) (h : RdB w B As cs s) (hd : Rd w B A c ds) (hr : BlAt w B ds SS) :
    Calls Try.prog 56 #[.slice A SS.length c, .func (Fn.func 58) #[] #[.pointer (some ⟨g, 0, none⟩)]] w fun e w' => (∃ n, e = .returned (.int .i64 n) ∧ ixB s SS n) ∧ Below w.heap.size w w' := by
  have h1 := hd.len
  have h2 := hd.max
  rw [hr.1] at h1
  have HL := Lib.hid hr.1
  go_enter Try.func56, Try.ntmps56
  go_wp2
  go_loopw [8] (fun i wr => ∃ k : Nat, i = .int .i64 k ∧ k ≤ SS.length ∧ (∀ j, j < k → s ≠ bl SS j) ∧ Below w.heap.size w wr) (fun i _ => SS.length - (intOf i).toNat)
  case atStart => exact ⟨0, rfl, by omega, fun j hj => absurd hj (by omega), Below.refl _ _⟩
  case round =>
    obtain ⟨k, rfl, hk, hs, hb⟩ := hrel
    have HS := Lib.hid hs; clear hs
    have hzr := hb.size
    by_cases hlt : k < SS.length
    · obtain ⟨b, o, rfl, hbB, hcc⟩ := (hd.below hb hB).at (j := k) (by rw [HL.out]; exact hlt)
      obtain ⟨Ak, ck, hk1, hk2⟩ := hr.2 k hlt
      have hck := hcc k _ hk1
      have HE := Lib.hid (eqs1_any As Ak cs ck g s (bl SS k) wr B (by omega) ((hb.cell (p := ⟨g, 0, none⟩) hg).trans hc) (h.below hb hB) (hk2.below hb hB))
      clear hcc hk1 hk2
      have HB := Lib.hid hb
      by_cases he : s = bl SS k
      · have hd' : decide (s = bl SS k) = true := decide_eq_true he
        rw [hd'] at HE
        have HI : Hid (ixB s SS (k : Int)) := Lib.hid (.inr ⟨k, rfl, hlt, he, HS.out⟩)
        clear he hb hd'
        go_wp2_with (go_at_call 58; (with_reducible refine (HE.out).mono ?_); rintro e w1 ⟨rfl, hb1⟩)
        go_ret
        exact ⟨⟨k, rfl, HI.out⟩, HB.out.trans (hb1.mono hzr)⟩
      · have hd' : decide (s = bl SS k) = false := decide_eq_false he
        rw [hd'] at HE
        have HI : Hid (∀ j, j < k + 1 → s ≠ bl SS j) := Lib.hid fun j hj => if hjk : j = k then by rw [hjk]; exact he else HS.out j (by omega)
        clear he hb hd'
        go_wp2_with (go_at_call 58; (with_reducible refine (HE.out).mono ?_); rintro e w1 ⟨rfl, hb1⟩)
        go_roundw
        case rel => exact ⟨k + 1, by go_num, by omega, HI.out, HB.out.trans (hb1.mono hzr)⟩
        case measure => simp [intOf]; omega
    · obtain rfl : k = SS.length := by omega
      go_wp2
      go_ret
      exact ⟨⟨-1, rfl, .inl ⟨rfl, HS.out⟩⟩, hb⟩

theorem infoRB : (Try.prog.info? 39).map (fun i => (i.zero, i.size, i.bytes)) = some (some (.slice none 0 0), 1, 24) := by kernel_rfl
set_option maxRecDepth 100000 in
set_option maxHeartbeats 400000 in
theorem cloneB_any (A : Option Addr) (c : Nat) (ds : List Value) (w : World) (B : Nat) (hB : B ≤ w.heap.size) (hn : ds.length ≤ 1000000) (hA : A ≠ none) (hd : Rd w B A c ds) (h1 : ∀ u ∈ ds, u.oneCell' = true) :
    Calls Try.prog 57 #[.slice A ds.length c] w fun e w' => ∃ A' c', e = .returned (.slice A' ds.length c') ∧ Own w' w.heap.size 39 (.slice A' ds.length c') ds ∧ Below w.heap.size w w' := by
  obtain ⟨⟨b, o, sp⟩, rfl⟩ := Option.ne_none_iff_exists'.1 hA
  have q71 : ∀ W, (binOp .eql 71 (.slice (some ⟨b, o, sp⟩) ds.length c) (.slice none 0 0)).run Try.prog W = .ok (.bool false) W := fun W => Lib.run_eql_slice_nil W _ _ _ _ _ _ _ Try.underlying71
  have hz : (w.alloc (.cells #[] 39)).heap.size = w.heap.size + 1 := by simp
  go_enter Try.func57, Try.ntmps57
  go_wp2_with (at_builtin; refine wpList_append_at rfl _ _ 71 39 (.slice none 0 0) 24 rfl Try.underlying71 infoRB rfl (by omega) w.heap.size (.slice (some ⟨w.heap.size, 0, none⟩) 0 0) [] rfl (Own.empty w 39 39 w.heap.size (Nat.le_refl _)) B (some ⟨b, o, sp⟩) ds.length c ds rfl rfl (Rd.below hd (bel1 _ _) hB) h1 (by rw [List.length_nil]; omega) (by rw [hz]; omega) ?_; intro A5 c5 w5 ho5 hb5 hg5 hp5; simp only [List.length_nil, Nat.zero_add, List.nil_append] at ho5 ⊢)
  go_ret
  exact ⟨A5, c5, rfl, ho5, (bel1 w _).trans hb5⟩
end Go.Proofs.Ytbledcogbkeneaa
