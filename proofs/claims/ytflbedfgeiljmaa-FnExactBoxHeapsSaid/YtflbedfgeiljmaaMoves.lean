/- The reference's lists of lists: comparing, putting to place, moves of a heap, by contracts. Conditions: none. -/
import Derived.Test.YtflbedfgeiljmaaLM
import Derived.Test.YtflbedfgeiljmaaCode
import Derived.Test.YtflbedfgeiljmaaBits
import Derived.Deep.LoopGhost
import Derived.Deep.DeepCutAuto
import Derived.Deep.CutBlock
import Derived.Deep.RegionHeld3
namespace Go.Proofs.Ytflbedfgeiljmaa
open Go.RowKit
set_option linter.unusedVariables false

theorem bit1_any (d : Int) (w : World) (hd : 0 ≤ d ∧ d ≤ 7) :
    Calls Try.prog 67 #[.int .i64 d, .int .i64 1] w fun e w' => e = .returned (.bool (decide (d % 2 = 1))) ∧ w = w' := by
  obtain ⟨h1, h2⟩ := hd
  have h3 : 0 ≤ d / 1 := by simp; omega
  go_enter Try.func67, Try.ntmps67
  go_wp2
  go_ret
  exact ⟨ret_bool (by rw [Bool.eq_iff_iff]; simp), rfl⟩
theorem bit2_any (d : Int) (w : World) (hd : 0 ≤ d ∧ d ≤ 7) :
    Calls Try.prog 67 #[.int .i64 d, .int .i64 2] w fun e w' => e = .returned (.bool (decide (d / 2 % 2 = 1))) ∧ w = w' := by
  obtain ⟨h1, h2⟩ := hd
  have h3 : 0 ≤ d / 2 := by omega
  go_enter Try.func67, Try.ntmps67
  go_wp2
  go_ret
  exact ⟨ret_bool (by rw [Bool.eq_iff_iff]; simp), rfl⟩
theorem bit4_any (d : Int) (w : World) (hd : 0 ≤ d ∧ d ≤ 7) :
    Calls Try.prog 67 #[.int .i64 d, .int .i64 4] w fun e w' => e = .returned (.bool (decide (d / 4 % 2 = 1))) ∧ w = w' := by
  obtain ⟨h1, h2⟩ := hd
  have h3 : 0 ≤ d / 4 := by omega
  go_enter Try.func67, Try.ntmps67
  go_wp2
  go_ret
  exact ⟨ret_bool (by rw [Bool.eq_iff_iff]; simp), rfl⟩

set_option maxHeartbeats 400000 in
theorem l1Has_any (A : Option Addr) (c : Nat) (xs : List Int) (x : Int) (w : World) (B : Nat) (h : RdI w B A c xs) :
    Calls Try.prog 73 #[.slice A xs.length c, .int .i64 x] w fun e w' => e = .returned (.bool (decide (x ∈ xs))) ∧ w = w' := by
  have h1 := h.len
  have h2 := h.max
  go_enter Try.func73, Try.ntmps73
  go_wp2
  go_loop [5] (fun i => ∃ k : Nat, i = .int .i64 k ∧ k ≤ xs.length ∧ ∀ j, j < k → gi xs j ≠ x) (fun i => xs.length - (intOf i).toNat)
  case atStart => exact ⟨0, rfl, by omega, fun j hj => absurd hj (by omega)⟩
  case round =>
    obtain ⟨k, rfl, hk, hs⟩ := hrel
    have HS := Lib.hid hs; clear hs
    by_cases hlt : k < xs.length
    · obtain ⟨b, o, rfl, hbB, hc⟩ := h.at (j := k) hlt
      have hc1 := hc k hlt
      clear hc
      by_cases he : gi xs k = x
      · have ht : (gi xs k == x) = true := by simp [he]
        have HE := Lib.hid he; clear he
        go_wp2
        go_ret
        refine ⟨ret_bool ?_, rfl⟩
        rw [Bool.true_eq, decide_eq_true_eq, ← HE.out, gi, List.getD_eq_getElem?_getD, List.getElem?_eq_getElem hlt]
        exact List.getElem_mem hlt
      · have ht : (gi xs k == x) = false := by simp [he]
        have HE := Lib.hid he; clear he
        go_wp2
        go_round
        case rel => exact ⟨k + 1, by go_num, by omega, fun j hj => if hjk : j = k then by subst hjk; exact HE.out else HS.out j (by omega)⟩
        case measure => simp [intOf]; omega
    · go_wp2
      go_ret
      refine ⟨ret_bool ?_, rfl⟩
      rw [Bool.false_eq, decide_eq_false_iff_not]
      intro hm
      obtain ⟨j, hj, hj'⟩ := List.getElem_of_mem hm
      exact HS.out j (by omega) (by rw [gi, List.getD_eq_getElem?_getD, List.getElem?_eq_getElem hj]; exact hj')

set_option maxHeartbeats 400000 in
theorem l3List_any (A A' : Option Addr) (c c' : Nat) (xs ys : List Int) (w : World) (B : Nat) (hB : B ≤ w.heap.size) (h : RdI w B A c xs) (h' : RdI w B A' c' ys) :
    Calls Try.prog 76 #[.slice A xs.length c, .slice A' ys.length c'] w fun e w' => e = .returned (.int .i64 (cmpL xs ys)) ∧ Below w.heap.size w w' := by
  have h1 := h.len
  have h2 := h.max
  have h3 := h'.len
  have h4 := h'.max
  go_enter Try.func76, Try.ntmps76
  go_wp2
  go_loopw [5] (fun i wr => ∃ k : Nat, i = .int .i64 k ∧ k ≤ xs.length ∧ k ≤ ys.length ∧ (∀ j, j < k → gi xs j = gi ys j) ∧ Below w.heap.size w wr) (fun i _ => xs.length - (intOf i).toNat)
  case atStart => exact ⟨0, rfl, by omega, by omega, fun j hj => absurd hj (by omega), Below.refl _ _⟩
  case round =>
    obtain ⟨k, rfl, hk, hk', hs, hb⟩ := hrel
    have HS := Lib.hid hs; clear hs
    by_cases hlt : k < xs.length ∧ k < ys.length
    · obtain ⟨hlt, hlt'⟩ := hlt
      obtain ⟨b, o, rfl, hbB, hc⟩ := (h.below hb hB).at (j := k) hlt
      obtain ⟨b', o', rfl, hbB', hc'⟩ := (h'.below hb hB).at (j := k) hlt'
      have hc1 := hc k hlt
      have hc2 := hc' k hlt'
      clear hc hc'
      by_cases he : gi xs k = gi ys k
      · have ht : (gi xs k != gi ys k) = false := by simp [he]
        have HE := Lib.hid he; clear he
        go_wp2
        go_quiet (fail)
        go_wp2
        go_roundw
        case rel => exact ⟨k + 1, by go_num, by omega, by omega, fun j hj => if hjk : j = k then by subst hjk; exact HE.out else HS.out j (by omega), bdrew hb _⟩
        case measure => simp [intOf]; omega
      · have ht : (gi xs k != gi ys k) = true := by simp [he]
        have HE : Hid (cmpL xs ys = if gi xs k < gi ys k then -1 else 1) := cmpL_at xs ys k hlt hlt' HS.out he
        clear he
        by_cases hl : gi xs k < gi ys k
        · rw [if_pos hl] at HE
          go_wp2
          go_quiet (fail)
          go_wp2
          go_quiet (fail)
          go_wp2
          go_ret
          exact ⟨ret_i64 HE.out.symm, bdrew (bdrew hb _) _⟩
        · rw [if_neg hl] at HE
          have hd : decide (gi xs k < gi ys k) = false := by simp; omega
          go_wp2
          go_quiet (fail)
          go_wp2
          go_quiet (fail)
          go_wp2
          go_ret
          exact ⟨ret_i64 HE.out.symm, bdrew (bdrew hb _) _⟩
    · have HE : Hid (cmpL xs ys = if xs.length < ys.length then -1 else if ys.length < xs.length then 1 else 0) := cmpL_end xs ys k hk hk' (by omega) HS.out
      rcases Nat.lt_trichotomy xs.length ys.length with hl | hl | hl
      · rw [if_pos hl] at HE
        have hkk : ¬ k < xs.length := by omega
        clear hlt
        go_wp2
        go_ret
        exact ⟨ret_i64 HE.out.symm, hb⟩
      · rw [if_neg (by omega), if_neg (by omega)] at HE
        have hkk : ¬ k < xs.length := by omega
        have h5 : ¬ xs.length < ys.length := by omega
        have h6 : ¬ ys.length < xs.length := by omega
        clear hlt hl
        go_wp2
        go_ret
        exact ⟨ret_i64 HE.out.symm, hb⟩
      · rw [if_neg (by omega), if_pos hl] at HE
        have hkk : ¬ k < ys.length := by omega
        clear hlt
        have hkx : k < xs.length := by omega
        go_wp2
        go_ret
        exact ⟨ret_i64 HE.out.symm, hb⟩

set_option maxHeartbeats 400000 in
theorem ahead_any (A A' : Option Addr) (c c' : Nat) (xs ys : List Int) (w : World) (B : Nat) (hB : B ≤ w.heap.size) (h : RdI w B A c xs) (h' : RdI w B A' c' ys) :
    Calls Try.prog 75 #[.slice A xs.length c, .slice A' ys.length c'] w fun e w' => e = .returned (.bool (aheadB xs ys)) ∧ Below w.heap.size w w' := by
  have h1 := h.len
  have h2 := h.max
  have h3 := h'.len
  have h4 := h'.max
  by_cases hl : xs.length = ys.length
  · have ht : ((xs.length : Int) != (ys.length : Int)) = false := by simp [hl]
    have HE : Hid (aheadB xs ys = decide (cmpL xs ys < 0)) := by show aheadB xs ys = _; rw [aheadB, if_pos hl]
    clear hl
    go_enter Try.func75, Try.ntmps75
    go_wp2_with (go_at_call 76; refine (l3List_any _ _ _ _ _ _ _ _ hB h h').mono ?_; rintro e w1 ⟨rfl, hb1⟩)
    go_ret
    exact ⟨ret_bool HE.out.symm, hb1⟩
  · have ht : ((xs.length : Int) != (ys.length : Int)) = true := by simp; omega
    have HE : Hid (aheadB xs ys = decide (xs.length < ys.length)) := by show aheadB xs ys = _; rw [aheadB, if_neg hl]
    clear hl
    go_enter Try.func75, Try.ntmps75
    go_wp2
    go_ret
    exact ⟨ret_bool (by rw [HE.out]), Below.refl _ _⟩

/-- The i-th list. -/
def gl (xss : List (List Int)) (i : Nat) : List Int := xss.getD i []
/-- The address lies in block lo or behind it. -/
def Lo (lo : Nat) (A : Option Addr) : Prop := ∀ a, A = some a → lo ≤ a.block
theorem Lo.none {lo : Nat} : Lo lo none := fun a h => by cases h
theorem Lo.le {lo lo' : Nat} {A : Option Addr} (h : Lo lo A) (hl : lo' ≤ lo) : Lo lo' A := fun a ha => Nat.le_trans hl (h a ha)
theorem Lo.zero {A : Option Addr} : Lo 0 A := fun a _ => Nat.zero_le _
theorem Lo.own {w : World} {base : Nat} {E : TypeId} {A : Option Addr} {n c : Nat} {cs : List Value} (h : Own w base E (.slice A n c) cs) : Lo base A := by
  intro a ha
  subst ha
  exact (h.lt a.block rfl).1
theorem Lo.ownI {w : World} {base : Nat} {A : Option Addr} {n c : Nat} {xs : List Int} (h : OwnI w base (.slice A n c) xs) : Lo base A := Lo.own (own_ints.1 h)
/-- The cells cs are slices that read as the lists xss, all between the blocks lo and B. -/
def RowsAt (w : World) (lo B : Nat) (cs : List Value) (xss : List (List Int)) : Prop :=
  cs.length = xss.length ∧ ∀ i, i < xss.length → ∃ Ai ci, cs[i]? = some (.slice Ai (gl xss i).length ci) ∧ RdI w B Ai ci (gl xss i) ∧ Lo lo Ai
theorem RowsAt.keep {w w' : World} {lo B B' : Nat} {cs : List Value} {xss : List (List Int)} (h : RowsAt w lo B cs xss) (hk : ∀ A c xs, RdI w B A c xs → Lo lo A → RdI w' B' A c xs) : RowsAt w' lo B' cs xss :=
  ⟨h.1, fun i hi => by obtain ⟨Ai, ci, h1, h2, h3⟩ := h.2 i hi; exact ⟨Ai, ci, h1, hk _ _ _ h2 h3, h3⟩⟩
theorem RowsAt.le {w : World} {lo lo' B : Nat} {cs : List Value} {xss : List (List Int)} (h : RowsAt w lo B cs xss) (hl : lo' ≤ lo) : RowsAt w lo' B cs xss :=
  ⟨h.1, fun i hi => by obtain ⟨Ai, ci, h1, h2, h3⟩ := h.2 i hi; exact ⟨Ai, ci, h1, h2, h3.le hl⟩⟩
theorem gl_lt {xss : List (List Int)} {i : Nat} (h : i < xss.length) : gl xss i = xss[i] := by simp [gl, h]
theorem RowsAt.append {w : World} {lo B : Nat} {cs ds : List Value} {xss yss : List (List Int)} (h : RowsAt w lo B cs xss) (k : RowsAt w lo B ds yss) : RowsAt w lo B (cs ++ ds) (xss ++ yss) := by
  refine ⟨by rw [List.length_append, List.length_append, h.1, k.1], fun i hi => ?_⟩
  rw [List.length_append] at hi
  by_cases hl : i < xss.length
  · obtain ⟨Ai, ci, h1, h2⟩ := h.2 i hl
    have e : gl (xss ++ yss) i = gl xss i := by simp [gl, List.getElem?_append_left hl]
    rw [e]
    exact ⟨Ai, ci, by rw [List.getElem?_append_left (by rw [h.1]; exact hl)]; exact h1, h2⟩
  · obtain ⟨Ai, ci, h1, h2⟩ := k.2 (i - xss.length) (by omega)
    have e : gl (xss ++ yss) i = gl yss (i - xss.length) := by simp [gl, List.getElem?_append_right (Nat.le_of_not_lt hl)]
    rw [e]
    exact ⟨Ai, ci, by rw [List.getElem?_append_right (by rw [h.1]; omega), h.1]; exact h1, h2⟩
theorem RowsAt.take {w : World} {lo B : Nat} {cs : List Value} {xss : List (List Int)} (h : RowsAt w lo B cs xss) (k : Nat) : RowsAt w lo B (cs.take k) (xss.take k) := by
  refine ⟨by rw [List.length_take, List.length_take, h.1], fun i hi => ?_⟩
  rw [List.length_take] at hi
  obtain ⟨Ai, ci, h1, h2⟩ := h.2 i (by omega)
  have e : gl (xss.take k) i = gl xss i := by simp [gl, List.getElem?_take_of_lt (show i < k by omega)]
  rw [e]
  exact ⟨Ai, ci, by rw [List.getElem?_take_of_lt (by omega)]; exact h1, h2⟩
theorem RowsAt.drop {w : World} {lo B : Nat} {cs : List Value} {xss : List (List Int)} (h : RowsAt w lo B cs xss) (k : Nat) : RowsAt w lo B (cs.drop k) (xss.drop k) := by
  refine ⟨by rw [List.length_drop, List.length_drop, h.1], fun i hi => ?_⟩
  rw [List.length_drop] at hi
  obtain ⟨Ai, ci, h1, h2⟩ := h.2 (k + i) (by omega)
  have e : gl (xss.drop k) i = gl xss (k + i) := by simp [gl]
  rw [e]
  exact ⟨Ai, ci, by rw [List.getElem?_drop]; exact h1, h2⟩
theorem RowsAt.one {w : World} {lo B : Nat} {A : Option Addr} {c : Nat} {xs : List Int} (h : RdI w B A c xs) (hl : Lo lo A) : RowsAt w lo B [.slice A xs.length c] [xs] :=
  ⟨rfl, fun i hi => by
    have : i = 0 := by simpa using hi
    subst this
    exact ⟨A, c, rfl, h, hl⟩⟩
theorem RowsAt.nil {w : World} {lo B : Nat} : RowsAt w lo B [] [] := ⟨rfl, fun i hi => absurd hi (by simp)⟩
theorem RowsAt.cell1 {w : World} {lo B : Nat} {cs : List Value} {xss : List (List Int)} (h : RowsAt w lo B cs xss) : ∀ u ∈ cs, u.oneCell' = true := by
  intro u hu
  obtain ⟨i, hi, rfl⟩ := List.getElem_of_mem hu
  obtain ⟨Ai, ci, h1, _⟩ := h.2 i (by rw [← h.1]; exact hi)
  rw [List.getElem?_eq_getElem hi] at h1
  injection h1 with h1
  rw [h1]; rfl
/-- Slice A of capacity c reads as the lists xss. -/
def RdR (w : World) (lo B : Nat) (A : Option Addr) (c : Nat) (xss : List (List Int)) : Prop := ∃ cs, Rd w B A c cs ∧ Lo lo A ∧ RowsAt w lo B cs xss
theorem RdR.below {w w' : World} {lo B B' c : Nat} {A : Option Addr} {xss : List (List Int)} (h : RdR w lo B A c xss) (hb : Below B' w w') (hB : B ≤ B') : RdR w' lo B A c xss := by
  obtain ⟨cs, h1, hl, h2⟩ := h
  exact ⟨cs, h1.below hb hB, hl, h2.keep fun _ _ _ k _ => k.below hb hB⟩
theorem RdR.more {w : World} {lo B B' c : Nat} {A : Option Addr} {xss : List (List Int)} (h : RdR w lo B A c xss) (hB : B ≤ B') : RdR w lo B' A c xss := by
  obtain ⟨cs, h1, hl, h2⟩ := h
  exact ⟨cs, h1.more hB, hl, h2.keep fun _ _ _ k _ => k.more hB⟩
theorem Rd.grown {w w' : World} {lo B c : Nat} {A : Option Addr} {cs : List Value} {row : Option Nat} (h : Rd w B A c cs) (hl : Lo lo A) (hg : w.grownBy w' row) (hB : B ≤ w.heap.size) (hr : ∀ g, row = some g → g < lo ∨ B ≤ g) : Rd w' B A c cs :=
  ⟨h.1, h.2.1, h.2.2.1, fun j hj => by
    obtain ⟨b, o, hA, hb, hc⟩ := h.2.2.2 j hj
    refine ⟨b, o, hA, hb, fun i u hi => ?_⟩
    refine (World.cell?_of_block (w := w) (a := ⟨b, o + i, none⟩) (hg.block b (by omega) fun e => ?_)).trans (hc i u hi)
    have h1 := hl _ hA
    have h1' : lo ≤ b := h1
    rcases hr b e.symm with h2 | h2 <;> omega⟩
theorem RdR.grown {w w' : World} {lo B c : Nat} {A : Option Addr} {xss : List (List Int)} {row : Option Nat} (h : RdR w lo B A c xss) (hg : w.grownBy w' row) (hB : B ≤ w.heap.size) (hr : ∀ g, row = some g → g < lo ∨ B ≤ g) : RdR w' lo B A c xss := by
  obtain ⟨cs, h1, hl, h2⟩ := h
  exact ⟨cs, h1.grown hl hg hB hr, hl, h2.keep fun _ _ _ k kl => Rd.grown k kl hg hB hr⟩
theorem RdR.len {w : World} {lo B c : Nat} {A : Option Addr} {xss : List (List Int)} (h : RdR w lo B A c xss) : xss.length ≤ c := by
  obtain ⟨cs, h1, hl, h2⟩ := h
  rw [← h2.1]; exact h1.1
theorem RdR.max {w : World} {lo B c : Nat} {A : Option Addr} {xss : List (List Int)} (h : RdR w lo B A c xss) : c ≤ 9223372036854775807 := by
  obtain ⟨cs, h1, hl, h2⟩ := h
  exact h1.max
theorem RdR.at {w : World} {lo B c : Nat} {A : Option Addr} {xss : List (List Int)} (h : RdR w lo B A c xss) {j : Nat} (hj : j < xss.length) :
    ∃ b o, A = some ⟨b, o, none⟩ ∧ b < B ∧ ∀ i, i < xss.length → ∃ Ai ci, w.cell? ⟨b, o + i, none⟩ = some (.slice Ai (gl xss i).length ci) ∧ RdI w B Ai ci (gl xss i) := by
  obtain ⟨cs, h1, hl, h2⟩ := h
  obtain ⟨b, o, hA, hb, hc⟩ := h1.at (j := j) (by rw [h2.1]; exact hj)
  refine ⟨b, o, hA, hb, fun i hi => ?_⟩
  obtain ⟨Ai, ci, k1, k2, _⟩ := h2.2 i hi
  exact ⟨Ai, ci, hc i _ k1, k2⟩
end Go.Proofs.Ytflbedfgeiljmaa
