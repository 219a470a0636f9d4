/- The functions of the chapter on periods, by contracts. Conditions: none. -/
import Derived.Test.YtidfbbegjpfjpaaLib
import Derived.Test.YtidfbbegjpfjpaaIn
import Derived.Test.YtidfbbegjpfjpaaMem
import Derived.WalkKit
import Derived.Below
import Derived.Lib.Hide
import Derived.ProofKit
import Derived.BigQuiet
import Derived.Deep.QuietTactic
import Derived.Deep.LoopGhost
import Derived.Outline
import Derived.Test.YtidfbbegjpfjpaaGoodPer
namespace Go.Proofs.Ytidfbbegjpfjpaa
open Go.RowKit
set_option linter.unusedVariables false

/-- The least index from which on vs repeats with len, looked for from k down. -/
def setl (vs : List Int) (len : Nat) : Nat → Nat
  | 0 => 0
  | i + 1 => if gi vs i = gi vs (i + len) then setl vs len i else i + 1

set_option maxHeartbeats 400000 in
theorem settled_any (A : Option Addr) (c : Nat) (vs : List Int) (len : Nat) (w : World) (B : Nat) (hB : B ≤ w.heap.size) (h : RdI w B A c vs) (hl : 1 ≤ len) (hl2 : len ≤ 1000000) :
    Calls Try.prog 67 #[.slice A vs.length c, .int .i64 len] w fun e w' => e = .returned (.int .i64 (setl vs len (vs.length - len))) ∧ Below w.heap.size w w' := by
  have h1 := h.len
  have h2 := h.max
  go_enter Try.func67, Try.ntmps67
  go_wp2
  go_loopw [5] (fun i wr => ∃ v : Int, i = .int .i64 v ∧ v ≤ (vs.length : Int) - 1 - len ∧ -1000002 ≤ v ∧ setl vs len (vs.length - len) = setl vs len (v + 1).toNat ∧ Below w.heap.size w wr)
    (fun i _ => (intOf i + 1).toNat)
  case atStart => exact ⟨_, rfl, by omega, by omega, by congr 1; omega, Below.refl _ _⟩
  case round =>
    obtain ⟨v, rfl, hv, hv2, hs, hb⟩ := hrel
    have HS := Lib.hid hs; clear hs
    by_cases h0 : 0 ≤ v
    · obtain ⟨k, rfl⟩ := Int.eq_ofNat_of_zero_le h0
      obtain ⟨b, o, rfl, hbB, hc⟩ := (h.below hb hB).at (j := k) (by omega)
      have hc1 := hc k (by omega)
      have hc2 := hc (k + len) (by omega)
      clear hc
      by_cases he : gi vs k = gi vs (k + len)
      · have ht : (gi vs k != gi vs (k + len)) = false := by simp [he]
        have HE := Lib.hid he; clear he
        go_wp2
        go_quiet (fail)
        go_wp2
        exact ⟨⟨_, rfl, by omega, by omega, by rw [HS.out, show ((k : Int) + 1).toNat = k + 1 by omega, show ((k : Int) - 1 + 1).toNat = k by omega, setl, if_pos HE.out], bdrew hb _⟩, by simp [intOf]⟩
      · have ht : (gi vs k != gi vs (k + len)) = true := by simp [he]
        have HE := Lib.hid he; clear he
        go_wp2
        go_quiet (fail)
        go_wp2
        go_ret
        exact ⟨ret_i64 (by rw [HS.out, show ((k : Int) + 1).toNat = k + 1 by omega, setl, if_neg HE.out]; omega), bdrew hb _⟩
    · go_wp2
      go_ret
      exact ⟨ret_i64 (by rw [HS.out, show (v + 1).toNat = 0 by omega, setl]; rfl), hb⟩

theorem setl_le (vs : List Int) (len p : Nat) : ∀ m, setl vs len m ≤ p ↔ ∀ j, p ≤ j → j < m → gi vs j = gi vs (j + len) := by
  intro m
  induction m with
  | zero => simp [setl]
  | succ m ih =>
    unfold setl
    by_cases he : gi vs m = gi vs (m + len)
    · rw [if_pos he, ih]
      constructor
      · intro h j hj hm
        by_cases hjm : j = m
        · subst hjm; exact he
        · exact h j hj (by omega)
      · intro h j hj hm
        exact h j hj (by omega)
    · rw [if_neg he]
      constructor
      · intro h j hj hm
        omega
      · intro h
        apply Classical.byContradiction
        intro hn
        exact he (h m (by omega) (by omega))

/-- vs repeats with len from p on. -/
def repB (vs : List Int) (p len : Nat) : Bool := decide (setl vs len (vs.length - len) ≤ p)

set_option maxHeartbeats 400000 in
theorem repeatsI_any (A : Option Addr) (c : Nat) (vs : List Int) (p l : Int) (w : World) (B : Nat) (hB : B ≤ w.heap.size) (h : RdI w B A c vs) :
    Calls Try.prog 55 #[.slice A vs.length c, .agg #[.int .i64 p, .int .i64 l]] w fun e w' => e = .returned (.bool (goodPerB p l && repB vs p.toNat l.toNat)) ∧ Below w.heap.size w w' := by
  cases hg : goodPerB p l
  · have HC : Hid (∀ W', Calls Try.prog 66 #[.agg #[.int .i64 p, .int .i64 l]] W' fun e w' => e = .returned (.bool false) ∧ Below W'.heap.size W' w') := fun W' => by have := goodPerI_any p l W'; rwa [hg] at this
    go_enter Try.func55, Try.ntmps55
    go_wp2
    have hzW : w.heap.size < (w.alloc (.cells #[.int .i64 p, .int .i64 l] 39)).heap.size := by simp
    have hAW : Below w.heap.size w (w.alloc (.cells #[.int .i64 p, .int .i64 l] 39)) := (Below.refl _ _).alloc (Nat.le_refl _) _
    have c0W : (w.alloc (.cells #[.int .i64 p, .int .i64 l] 39)).cell? ⟨w.heap.size, 0, none⟩ = some (.int .i64 p) := by simp [go_sem]
    have c1W : (w.alloc (.cells #[.int .i64 p, .int .i64 l] 39)).cell? ⟨w.heap.size, 1, none⟩ = some (.int .i64 l) := by simp [go_sem]
    generalize w.alloc (.cells #[.int .i64 p, .int .i64 l] 39) = W at *
    have hx0 := fun x => (grow_cell w.heap.size 0 hzW x).trans c0W
    have hx1 := fun x => (grow_cell w.heap.size 1 hzW x).trans c1W
    refine wp_region_inv (Below W.heap.size W) (grow0 _) (by kernel_rfl) (by kernel_rfl) ?_
    repeat (go_big_quiet_step ((go_at_call 66; exact grow_step (HC.out _))))
    refine wpQuiet_nil ?_
    intro w' hw'
    have hb := grow_of hw'
    clear hw'
    go_wp2
    go_ret
    exact ⟨rfl, hAW.trans (hb.mono (by omega))⟩
  · have hg' := hg
    simp [goodPerB] at hg'
    obtain ⟨p, rfl⟩ := Int.eq_ofNat_of_zero_le hg'.1
    obtain ⟨l, rfl⟩ := Int.eq_ofNat_of_zero_le (show 0 ≤ l by omega)
    have HC : Hid (∀ W', Calls Try.prog 66 #[.agg #[.int .i64 p, .int .i64 l]] W' fun e w' => e = .returned (.bool true) ∧ Below W'.heap.size W' w') := fun W' => by have := goodPerI_any p l W'; rwa [hg] at this
    have hs := h.len
    simp only [Int.toNat_natCast, Bool.true_and]
    clear hg
    by_cases hr : setl vs l (vs.length - l) ≤ p
    all_goals
      go_enter Try.func55, Try.ntmps55
      go_wp2
      have hzW : w.heap.size < (w.alloc (.cells #[.int .i64 p, .int .i64 l] 39)).heap.size := by simp
      have hAW : Below w.heap.size w (w.alloc (.cells #[.int .i64 p, .int .i64 l] 39)) := (Below.refl _ _).alloc (Nat.le_refl _) _
      have c0W : (w.alloc (.cells #[.int .i64 p, .int .i64 l] 39)).cell? ⟨w.heap.size, 0, none⟩ = some (.int .i64 p) := by simp [go_sem]
      have c1W : (w.alloc (.cells #[.int .i64 p, .int .i64 l] 39)).cell? ⟨w.heap.size, 1, none⟩ = some (.int .i64 l) := by simp [go_sem]
      generalize w.alloc (.cells #[.int .i64 p, .int .i64 l] 39) = W at *
      have HR : Hid (∀ x : Wd (Below W.heap.size W), RdI (inst _ x) B A c vs) := fun x => (h.below hAW hB).below (inst_inv x) (by have := hAW.size; omega)
      have hx0 := fun x => (grow_cell w.heap.size 0 hzW x).trans c0W
      have hx1 := fun x => (grow_cell w.heap.size 1 hzW x).trans c1W
      refine wp_region_inv (Below W.heap.size W) (grow0 _) (by kernel_rfl) (by kernel_rfl) ?_
      repeat (go_big_quiet_step (first
        | (go_at_call 66; exact grow_step (HC.out _))
        | (go_at_call 67; exact grow_step (settled_any _ _ _ _ _ B (by have := hAW.size; exact Nat.le_trans (by omega) (grow_size _)) (HR.out _) (by omega) (by omega)))))
      refine wpQuiet_nil ?_
      intro w' hw'
      have hb := grow_of hw'
      clear hw'
      go_wp2
      go_ret
      exact ⟨by simp [repB, hr], hAW.trans (hb.mono (by omega))⟩

/-- The first length from len on, fuel of them tried, at which vs has a period with room for two. -/
def lp (vs : List Int) (len : Nat) : Nat → Option (Nat × Nat)
  | 0 => none
  | f + 1 => if setl vs len (vs.length - len) + 2 * len ≤ vs.length then some (setl vs len (vs.length - len), len) else lp vs (len + 1) f
def perV : Option (Nat × Nat) → Value
  | some (p, l) => .tuple #[.agg #[.int .i64 p, .int .i64 l], .bool true]
  | none => .tuple #[.agg #[.int .i64 0, .int .i64 0], .bool false]
def leastPer (vs : List Int) : Option (Nat × Nat) := if 2 ≤ vs.length ∧ vs.length ≤ 301 then lp vs 1 300 else none
theorem setl_bound (vs : List Int) (len : Nat) : ∀ m, setl vs len m ≤ m := by
  intro m
  induction m with
  | zero => simp [setl]
  | succ m ih => unfold setl; split <;> omega

set_option maxHeartbeats 400000 in
theorem repFromS_any (A : Option Addr) (c : Nat) (vs : List Int) (p l : Nat) (w : World) (B : Nat) (hB : B ≤ w.heap.size) (h : RdI w B A c vs) (hl : 1 ≤ l) (hl2 : l ≤ 1000000) (hp2 : p ≤ 1000000) :
    Calls Try.prog 58 #[.slice A vs.length c, .agg #[.int .i64 p, .int .i64 l]] w fun e w' => e = .returned (.bool (repB vs p l)) ∧ Below w.heap.size w w' := by
  have h1 := h.len
  have h2 := h.max
  go_enter Try.func58, Try.ntmps58
  go_wp2
  have hzW : w.heap.size < (w.alloc (.cells #[.int .i64 p, .int .i64 l] 39)).heap.size := by simp
  have hAW : Below w.heap.size w (w.alloc (.cells #[.int .i64 p, .int .i64 l] 39)) := (Below.refl _ _).alloc (Nat.le_refl _) _
  have c0W : (w.alloc (.cells #[.int .i64 p, .int .i64 l] 39)).cell? ⟨w.heap.size, 0, none⟩ = some (.int .i64 p) := by simp [go_sem]
  have c1W : (w.alloc (.cells #[.int .i64 p, .int .i64 l] 39)).cell? ⟨w.heap.size, 1, none⟩ = some (.int .i64 l) := by simp [go_sem]
  generalize w.alloc (.cells #[.int .i64 p, .int .i64 l] 39) = W at *
  go_loopw [5] (fun i wr => ∃ k : Nat, i = .int .i64 k ∧ p ≤ k ∧ (k ≤ p ∨ k + l ≤ vs.length) ∧ (∀ j, p ≤ j → j < k → gi vs j = gi vs (j + l)) ∧ Below W.heap.size W wr)
    (fun i _ => vs.length + p - (intOf i).toNat)
  case atStart => exact ⟨p, rfl, by omega, .inl (by omega), fun j hj hj2 => absurd hj2 (by omega), Below.refl _ _⟩
  case round =>
    obtain ⟨k, rfl, hk1, hk2, hs, hb⟩ := hrel
    have HS := Lib.hid hs; clear hs
    have q0 := (hb.cell (p := ⟨w.heap.size, 0, none⟩) hzW).trans c0W
    have q1 := (hb.cell (p := ⟨w.heap.size, 1, none⟩) hzW).trans c1W
    by_cases hk : k + l < vs.length
    · obtain ⟨b, o, rfl, hbB, hc⟩ := ((h.below hAW hB).below hb (by omega)).at (j := k) (by omega)
      have hc1 := hc k (by omega)
      have hc2 := hc (k + l) (by omega)
      clear hc
      by_cases he : gi vs k = gi vs (k + l)
      · have ht : (gi vs k != gi vs (k + l)) = false := by simp [he]
        have HE := Lib.hid he; clear he
        go_wp2
        go_quiet (fail)
        go_wp2
        go_roundw
        case rel => exact ⟨k + 1, by go_num, by omega, .inr (by omega), fun j hj hj2 => if hjk : j = k then by subst hjk; exact HE.out else HS.out j hj (by omega), bdrew hb _⟩
        case measure => simp [intOf]; omega
      · have ht : (gi vs k != gi vs (k + l)) = true := by simp [he]
        have HE := Lib.hid he; clear he
        go_wp2
        go_quiet (fail)
        go_wp2
        go_ret
        refine ⟨ret_bool ?_, hAW.trans ((bdrew hb _).mono (by omega))⟩
        simp only [repB, Bool.false_eq, decide_eq_false_iff_not]
        rw [setl_le]
        exact fun hh => HE.out (hh k hk1 (by omega))
    · go_wp2
      go_ret
      refine ⟨ret_bool ?_, hAW.trans (hb.mono (by omega))⟩
      simp only [repB, Bool.true_eq, decide_eq_true_eq]
      rw [setl_le]
      exact fun j hj hj2 => HS.out j hj (by omega)
end Go.Proofs.Ytidfbbegjpfjpaa
