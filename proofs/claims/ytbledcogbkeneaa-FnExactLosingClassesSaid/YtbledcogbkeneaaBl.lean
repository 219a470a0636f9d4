/- The laws' own helpers on rows of bools: eqBoolS, markBoolS, heldBoolS, by contracts. Conditions: none. -/
import Derived.Test.YtbledcogbkeneaaSl
import Derived.Test.YtbledcogbkeneaaRow1
import Derived.Test.YtbledcogbkeneaaRowsG
namespace Go.Proofs.Ytbledcogbkeneaa
open Go.RowKit
set_option linter.unusedVariables false

/-- The i-th of some bools. -/
def gb (xs : List Bool) (i : Nat) : Bool := xs.getD i false
/-- Bools as cells. -/
def bls (bs : List Bool) : List Value := bs.map Value.bool
theorem bls_len (bs : List Bool) : (bls bs).length = bs.length := by simp [bls]
theorem bls_snoc (bs : List Bool) (b : Bool) : bls (bs ++ [b]) = bls bs ++ [.bool b] := by simp [bls]
theorem bls_one {bs : List Bool} : ∀ u ∈ bls bs, u.oneCell' = true := fun u hu => by obtain ⟨b, _, rfl⟩ := List.mem_map.1 hu; rfl
theorem bls_at (xs : List Bool) (i : Nat) (h : i < xs.length) : (bls xs)[i]? = some (.bool (gb xs i)) := by simp [bls, gb, h]
theorem bls_set (xs : List Bool) (j : Nat) (u : Bool) : (bls xs).set j (.bool u) = bls (xs.set j u) := by simp [bls, List.map_set]
theorem infoBo : (Try.prog.info? 4).map (fun i => (i.zero, i.size, i.bytes)) = some (some (.bool false), 1, 1) := by kernel_rfl
/-- A slice that reads as bools. -/
def RdB (w : World) (B : Nat) (A : Option Addr) (c : Nat) (xs : List Bool) : Prop := Rd w B A c (bls xs)
theorem RdB.at {w : World} {B c : Nat} {A : Option Addr} {xs : List Bool} (h : RdB w B A c xs) {j : Nat} (hj : j < xs.length) :
    ∃ b o, A = some ⟨b, o, none⟩ ∧ b < B ∧ ∀ i, i < xs.length → w.cell? ⟨b, o + i, none⟩ = some (.bool (gb xs i)) := by
  obtain ⟨b, o, hA, hb, hc⟩ := Rd.at h (j := j) (by rw [bls_len]; exact hj)
  exact ⟨b, o, hA, hb, fun i hi => hc i _ (bls_at xs i hi)⟩
theorem RdB.len {w : World} {B c : Nat} {A : Option Addr} {xs : List Bool} (h : RdB w B A c xs) : xs.length ≤ c := by have := h.1; rwa [bls_len] at this
theorem RdB.max {w : World} {B c : Nat} {A : Option Addr} {xs : List Bool} (h : RdB w B A c xs) : c ≤ 9223372036854775807 := Rd.max h
theorem RdB.below {w w' : World} {B B' c : Nat} {A : Option Addr} {xs : List Bool} (h : RdB w B A c xs) (hb : Below B' w w') (hB : B ≤ B') : RdB w' B A c xs := Rd.below h hb hB
theorem RdB.more {w : World} {B B' c : Nat} {A : Option Addr} {xs : List Bool} (h : RdB w B A c xs) (hB : B ≤ B') : RdB w B' A c xs := Rd.more h hB

/-- The mark at place i. -/
def tb (k : Int) (i : Nat) : Bool := (k + i) % 3 == 0
def mkB (k : Int) (n : Nat) : List Bool := (List.range n).map fun i => tb k i
theorem mkB_len (k : Int) (n : Nat) : (mkB k n).length = n := by simp [mkB]
theorem gb_mkB (k : Int) (n i : Nat) (h : i < n) : gb (mkB k n) i = tb k i := by simp [gb, mkB, h]
theorem mkB_step (k : Int) (xs : List Bool) (j : Nat) (h : j < xs.length) : (mkB k j ++ xs.drop j).set j (tb k j) = mkB k (j + 1) ++ xs.drop (j + 1) := by
  rw [List.set_append_right _ _ (by rw [mkB_len]; exact Nat.le_refl _), mkB_len, Nat.sub_self, List.drop_eq_getElem_cons h, List.set_cons_zero]
  simp [mkB, List.range_succ]

set_option maxHeartbeats 400000 in
theorem markBl_any (A : Option Addr) (c : Nat) (xs : List Bool) (k : Int) (w : World) (lo : Nat) (h : Own w lo 4 (.slice A xs.length c) (bls xs)) (hk : 0 ≤ k) (hb : k + xs.length ≤ 1000000000000000) :
    Calls Try.prog 24 #[.slice A xs.length c, .int .i64 k] w fun e w' =>
      e = .returned (.int .i64 (k + xs.length)) ∧ Own w' lo 4 (.slice A xs.length c) (bls (mkB k xs.length)) ∧ w.grownBy w' (Value.slice A xs.length c).ownBlock := by
  have h1 := (RdB.len (show RdB w _ A c xs from h.rd))
  have h2 := (RdB.max (show RdB w _ A c xs from h.rd))
  go_enter Try.func24, Try.ntmps24
  go_wp2
  go_loopw [1, 5] (fun k' i wr => ∃ j : Nat, i = .int .i64 j ∧ k' = .int .i64 (k + j) ∧ j ≤ xs.length ∧ Own wr lo 4 (.slice A xs.length c) (bls (mkB k j ++ xs.drop j)) ∧ w.grownBy wr (Value.slice A xs.length c).ownBlock)
    (fun _ i _ => xs.length - (intOf i).toNat)
  case atStart => exact ⟨0, rfl, by simp, by omega, by simpa [mkB] using h, ⟨rfl, rfl, rfl, Nat.le_refl _, fun _ _ _ => rfl⟩⟩
  case round =>
    clear h
    obtain ⟨j, rfl, rfl, hj, ho, hg⟩ := hrel
    have hlen : (mkB k j ++ xs.drop j).length = xs.length := by rw [List.length_append, mkB_len, List.length_drop]; omega
    by_cases hlt : j < xs.length
    · obtain ⟨g, rfl, -, hlo, hgl, hc, hf⟩ := ho.at (by rw [bls_len, hlen]; omega)
      have hcj := hc j _ (bls_at _ j (by rw [hlen]; exact hlt))
      have hfj := hf j
      clear hc hf
      have ho' : wr.ownsRow lo 4 1 (.slice (some ⟨g, 0, none⟩) xs.length c) xs.length (bls (mkB k j ++ xs.drop j)) := by
        have := ho
        unfold Own at this
        rw [bls_len, hlen] at this
        exact this
      have hs := ho'.stored j (.bool (tb k j))
      rw [bls_set, mkB_step k xs j hlt] at hs
      obtain ⟨hs1, hs2⟩ := hs
      have hs3 : Own (wr.setCell ⟨g, j, none⟩ (.bool (tb k j))) lo 4 (.slice (some ⟨g, 0, none⟩) xs.length c) (bls (mkB k (j + 1) ++ xs.drop (j + 1))) := by
        unfold Own
        rw [bls_len, List.length_append, mkB_len, List.length_drop, show j + 1 + (xs.length - (j + 1)) = xs.length by omega]
        exact hs1
      have htb : tb k j = ((k + j) % 3 == 0) := rfl
      rw [htb] at hs3 hs2
      have HS := Lib.hid hs3; clear hs1 hs3 htb
      have HG2 := Lib.hid hs2; clear hs2
      have HG := Lib.hid hg; clear hg
      have HO := Lib.hid ho; clear ho ho' hlen
      go_wp2
      go_roundw
      case rel => exact ⟨j + 1, by go_num, by go_num, by omega, HS.out, HG.out.trans HG2.out⟩
      case measure => simp [intOf]; omega
    · obtain rfl : j = xs.length := by omega
      rw [List.drop_length, List.append_nil] at ho
      have HO := Lib.hid ho; clear ho
      go_wp2
      go_ret
      exact ⟨rfl, HO.out, hg⟩

set_option maxHeartbeats 400000 in
theorem heldBl_any (A : Option Addr) (c : Nat) (n : Nat) (k : Int) (w : World) (B : Nat) (h : RdB w B A c (mkB k n)) (hk : 0 ≤ k) (hb : k + n ≤ 1000000000000000) :
    Calls Try.prog 25 #[.slice A n c, .int .i64 k] w fun e w' => e = .returned (.int .i64 (k + n)) ∧ w = w' := by
  have h1 := h.len
  have h2 := h.max
  rw [mkB_len] at h1
  go_enter Try.func25, Try.ntmps25
  go_wp2
  go_loop [1, 5] (fun k' i => ∃ j : Nat, i = .int .i64 j ∧ k' = .int .i64 (k + j) ∧ j ≤ n) (fun _ i => n - (intOf i).toNat)
  case atStart => exact ⟨0, rfl, by simp, by omega⟩
  case round =>
    obtain ⟨j, rfl, rfl, hj⟩ := hrel
    by_cases hlt : j < n
    · obtain ⟨b, o, rfl, hbB, hc⟩ := h.at (j := j) (by rw [mkB_len]; exact hlt)
      have hcj := hc j (by rw [mkB_len]; exact hlt)
      rw [gb_mkB k n j hlt, show tb k j = ((k + j) % 3 == 0) from rfl] at hcj
      clear hc
      go_wp2
      go_round
      case rel => exact ⟨j + 1, by go_num, by go_num, by omega⟩
      case measure => simp [intOf]; omega
    · obtain rfl : j = n := by omega
      go_wp2
      go_ret
      exact ⟨rfl, rfl⟩

set_option maxHeartbeats 400000 in
theorem eqBl_any (A A' : Option Addr) (c c' : Nat) (xs ys : List Bool) (w : World) (B : Nat) (hB : B ≤ w.heap.size) (h : RdB w B A c xs) (h' : RdB w B A' c' ys) :
    Calls Try.prog 23 #[.slice A xs.length c, .slice A' ys.length c'] w fun e w' => e = .returned (.bool (decide (xs = ys))) ∧ Below w.heap.size w w' := by
  have h1 := h.len
  have h2 := h.max
  have h3 := h'.len
  have h4 := h'.max
  by_cases hl : xs.length = ys.length
  · have hne : ((xs.length : Int) != (ys.length : Int)) = false := by simp [hl]
    have HL := Lib.hid hl; clear hl
    go_enter Try.func23, Try.ntmps23
    go_wp2
    go_loopw [5] (fun i wr => ∃ k : Nat, i = .int .i64 k ∧ k ≤ xs.length ∧ (∀ j, j < k → gb xs j = gb ys j) ∧ Below w.heap.size w wr)
      (fun i _ => xs.length - (intOf i).toNat)
    case atStart => exact ⟨0, rfl, by omega, fun j hj => absurd hj (by omega), Below.refl _ _⟩
    case round =>
      obtain ⟨k, rfl, hk, hs, hb⟩ := hrel
      have HS := Lib.hid hs; clear hs
      by_cases hlt : k < xs.length
      · have hlt' : k < ys.length := by rw [← HL.out]; exact hlt
        obtain ⟨b, o, rfl, hbB, hc⟩ := (h.below hb hB).at (j := k) hlt
        obtain ⟨b', o', rfl, hbB', hc'⟩ := (h'.below hb hB).at (j := k) hlt'
        have hc1 := hc k hlt
        have hc2 := hc' k hlt'
        clear hc hc'
        by_cases he : gb xs k = gb ys k
        · rw [← he] at hc2
          have HE := Lib.hid he; clear he
          generalize gb xs k = u at hc1 hc2
          go_wp2
          go_quiet (fail)
          go_wp2
          go_roundw
          case rel => exact ⟨k + 1, by go_num, by omega, fun j hj => if hjk : j = k then by subst hjk; exact HE.out else HS.out j (by omega), bdrew hb _⟩
          case measure => simp [intOf]; omega
        · have HE : Hid (¬ xs = ys) := Lib.hid fun h => he (by rw [h])
          have hxu : ∃ x y : Bool, gb xs k = x ∧ gb ys k = y := ⟨_, _, rfl, rfl⟩
          obtain ⟨x, y, hx, hy⟩ := hxu
          rw [hx, hy] at he
          rw [hx] at hc1
          rw [hy] at hc2
          clear hx hy
          cases x <;> cases y
          all_goals first
            | exact absurd rfl he
            | (clear he
               go_wp2
               go_quiet (fail)
               go_wp2
               go_ret
               refine ⟨ret_bool ?_, bdrew hb _⟩
               rw [Bool.false_eq, decide_eq_false_iff_not]
               exact HE.out)
      · go_wp2
        go_ret
        refine ⟨ret_bool ?_, hb⟩
        rw [Bool.true_eq, decide_eq_true_eq]
        refine List.ext_getElem HL.out fun j hj hj' => ?_
        have := HS.out j (by omega)
        simpa [gb, hj, hj'] using this
  · have hne : ((xs.length : Int) != (ys.length : Int)) = true := by simp; omega
    have hxy : ¬ xs = ys := fun h => hl (by rw [h])
    go_enter Try.func23, Try.ntmps23
    go_wp2
    go_ret
    exact ⟨by simp [hxy], Below.refl _ _⟩
end Go.Proofs.Ytbledcogbkeneaa
