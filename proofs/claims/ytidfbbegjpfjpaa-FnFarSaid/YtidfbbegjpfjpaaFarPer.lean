/- What a proved period says of far values: plain laws. Conditions: none. -/
import Derived.Test.YtidfbbegjpfjpaaFar
import Derived.Test.YtidfbbegjpfjpaaSeenL
import Derived.Test.YtidfbbegjpfjpaaDrawPro
namespace Go.Proofs.Ytidfbbegjpfjpaa
open Go.RowKit
set_option linter.unusedVariables false

theorem far_next {p l n : Int} (hl : 1 ≤ l) (hn : p ≤ n) : farIdx p l (n + l) = farIdx p l n := by
  unfold farIdx
  rw [if_pos (by omega)]
  have e : n + l - p = (n - p) + l := by omega
  rw [e, Int.add_emod_right]
  by_cases h : p + l ≤ n
  · rw [if_pos h]
  · rw [if_neg h, Int.emod_eq_of_lt (by omega) (by omega)]
    omega
theorem farOk_iff {cs : List Int} {p l n : Int} : farOk cs p l n = true ↔ provedB cs p l = true ∧ 0 ≤ n ∧ n ≤ 1000000000 := by
  simp [farOk, inB]
theorem farV_ok {cs : List Int} {p l n : Int} (h : farOk cs p l n = true) : farV cs p l n = (val cs (farIdx p l n).toNat : Nat) := by unfold farV; rw [if_pos h]
/-- A value far out is among those that are seen. -/
theorem far_seen {cs : List Int} {p l : Nat} {n : Int} (hl : 1 ≤ l) (hn : (p : Int) ≤ n) : ((val cs (farIdx p l n).toNat : Nat) : Int) ∈ putAll (rowL cs p l) := by
  have hp0 : (0 : Int) ≤ (p : Int) := by omega
  have hidx := farIdx_lt (p := p) (l := l) (n := n) (by omega) hp0 (by omega)
  have hge : (p : Int) ≤ farIdx p l n := by
    unfold farIdx
    split
    · have := Int.emod_nonneg (n - p) (show (l : Int) ≠ 0 by omega); omega
    · exact hn
  obtain ⟨k, hk⟩ : ∃ k : Nat, farIdx p l n = k := ⟨(farIdx p l n).toNat, by omega⟩
  rw [hk] at hidx hge ⊢
  rw [Int.toNat_natCast]
  refine ((foldl_put (rowL cs p l) [] .nil).2 _).2 (.inr ?_)
  have h1 := rowL_gi cs p l (k - p) (by omega)
  rw [show p + (k - p) = k by omega, gi_nats, val_at cs (show k < p + l by omega)] at h1
  have hlt : k - p < (rowL cs p l).length := by rw [rowL_len]; omega
  have h2 : gi (rowL cs p l) (k - p) = (rowL cs p l)[k - p] := by simp [gi, hlt]
  rw [← h1, h2]
  exact List.getElem_mem hlt
/-- The values of all heaps within are those of their likes. -/
theorem far_val {cs : List Int} {p l : Nat} (hl : 1 ≤ l) (hr : repB (nats (V cs 301)) p l = true) (n : Nat) (hn : n ≤ 300) : val cs n = val cs (farIdx p l n).toNat := by
  induction n using Nat.strongRecOn with
  | _ n ih =>
    by_cases h : p + l ≤ n
    · have h1 := (repB_iff (n := 300)).1 hr (n - l) (by omega) (by omega)
      rw [val_at cs (by omega), val_at cs (by omega), show n - l + l = n by omega] at h1
      have h2 := ih (n - l) (by omega) (by omega)
      have h3 := far_next (p := p) (l := l) (n := ((n - l : Nat) : Int)) (by omega) (by omega)
      rw [show ((n - l : Nat) : Int) + (l : Int) = (n : Int) by omega] at h3
      rw [h3, ← h2, h1]
    · have : farIdx p l n = n := by unfold farIdx; rw [if_neg (by omega)]
      rw [this, Int.toNat_natCast]
theorem V_small {cs : List Int} {n : Nat} (h : small255 (V cs 301)) (hn : n ≤ 300) : small255 (V cs (n + 1)) := small255_mono h (by omega)

/-- HeapValues at n, where the values are all nimbers. -/
def HvGoodN (cs : List Int) (n : Nat) (w : World) (e : Ending) (w' : World) : Prop :=
  ∃ (A : Option Addr) (c : Nat), e = .returned (.tuple #[.slice A (n + 1) c, .bool true]) ∧ OwnI w' w.heap.size (.slice A (n + 1) c) (nats (V cs (n + 1))) ∧ Below w.heap.size w w'
set_option maxHeartbeats 800000 in
theorem hvn_good (A : Option Addr) (c : Nat) (cs : List Int) (n : Nat) (w : World) (B : Nat) (hn : n ≤ 300) (hB : B ≤ w.heap.size) (h : RdI w B A c cs) (hg : goodCode cs) (hs : small255 (V cs (n + 1))) :
    Calls Try.prog 18 #[.slice A cs.length c, .int .i64 n] w (HvGoodN cs n w) := by
  have hG := fun W hh => goodCodeI_any A c cs W B hh
  rw [goodCodeB_true.2 hg] at hG
  have hV : ∀ W, B ≤ W.heap.size → RdI W B A c cs → Calls Try.prog 35 #[.slice A cs.length c, .int .i64 n] W (valsPost cs n W) := fun W hb hh => valuesI_any A c cs n W B hb hh (by omega) hg
  have HG := Lib.hid hG; have HV := Lib.hid hV; have HS := Lib.hid hs
  clear hG hV hs hg
  go_enter Try.func18, Try.ntmps18
  go_wp2_with fail
  ((with_reducible refine (HG.out _ h).mono ?_); rintro e w1 ⟨rfl, rfl⟩)
  go_wp2_with fail
  ((with_reducible refine (HV.out _ hB h).mono ?_); rintro e w2 ⟨hv, hb⟩)
  rcases hv with ⟨_, A2, c2, rfl, ho⟩ | ⟨hn, _⟩
  · have HO := Lib.hid ho; clear ho
    go_wp2
    go_ret2
    exact ⟨A2, c2, rfl, HO.out, hb⟩
  · exact absurd HS.out hn
end Go.Proofs.Ytidfbbegjpfjpaa
