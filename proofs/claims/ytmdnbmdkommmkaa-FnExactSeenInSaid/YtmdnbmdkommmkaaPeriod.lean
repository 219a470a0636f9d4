/- The functions of the chapter on periods, by contracts. Conditions: none. -/
import Derived.Test.YtmdnbmdkommmkaaLib
import Derived.Test.YtmdnbmdkommmkaaIn
import Derived.Test.YtmdnbmdkommmkaaMem
import Derived.WalkKit
import Derived.Below
import Derived.Lib.Hide
import Derived.ProofKit
import Derived.BigQuiet
import Derived.Deep.QuietTactic
import Derived.Deep.LoopGhost
import Derived.Outline
import Derived.Test.YtmdnbmdkommmkaaGoodPer
namespace Go.Proofs.Ytmdnbmdkommmkaa
open Go.RowKit
set_option linter.unusedVariables false

/-- The least index from which on vs repeats with len, looked for from k down. -/
def setl (vs : List Int) (len : Nat) : Nat → Nat
  | 0 => 0
  | i + 1 => if gi vs i = gi vs (i + len) then setl vs len i else i + 1

set_option maxHeartbeats 400000 in
theorem settled_any (A : Option Addr) (c : Nat) (vs : List Int) (len : Nat) (w : World) (B : Nat) (hB : B ≤ w.heap.size) (h : RdI w B A c vs) (hl : 1 ≤ len) (hl2 : len ≤ 1000000) :
    Calls Try.prog 44 #[.slice A vs.length c, .int .i64 len] w fun e w' => e = .returned (.int .i64 (setl vs len (vs.length - len))) ∧ Below w.heap.size w w' := by
  have h1 := h.len
  have h2 := h.max
  go_enter Try.func44, Try.ntmps44
  go_wp2
  go_loopw [5] (fun i wr => ∃ v : Int, i = .int .i64 v ∧ v ≤ (vs.length : Int) - 1 - len ∧ -1000002 ≤ v ∧ setl vs len (vs.length - len) = setl vs len (v + 1).toNat ∧ Below w.heap.size w wr)
    (fun i _ => (intOf i + 1).toNat)
  case atStart => exact ⟨_, rfl, by omega, by omega, by congr 1; omega, Below.refl _ _⟩
  case round =>
    obtain ⟨v, rfl, hv, hv2, hs, hb⟩ := hrel
    have HS := Lib.hid hs; clear hs
    by_cases h0 : 0 ≤ v
    · obtain ⟨k, rfl⟩ := Int.eq_ofNat_of_zero_le h0
      obtain ⟨b, o, rfl, hbB, hc⟩ := (h.below hb hB).at (j := k) (by omega)
      have hc1 := hc k (by omega)
      have hc2 := hc (k + len) (by omega)
      clear hc
      by_cases he : gi vs k = gi vs (k + len)
      · have ht : (gi vs k != gi vs (k + len)) = false := by simp [he]
        have HE := Lib.hid he; clear he
        go_wp2
        go_quiet (fail)
        go_wp2
        exact ⟨⟨_, rfl, by omega, by omega, by rw [HS.out, show ((k : Int) + 1).toNat = k + 1 by omega, show ((k : Int) - 1 + 1).toNat = k by omega, setl, if_pos HE.out], bdrew hb _⟩, by simp [intOf]⟩
      · have ht : (gi vs k != gi vs (k + len)) = true := by simp [he]
        have HE := Lib.hid he; clear he
        go_wp2
        go_quiet (fail)
        go_wp2
        go_ret
        exact ⟨ret_i64 (by rw [HS.out, show ((k : Int) + 1).toNat = k + 1 by omega, setl, if_neg HE.out]; omega), bdrew hb _⟩
    · go_wp2
      go_ret
      exact ⟨ret_i64 (by rw [HS.out, show (v + 1).toNat = 0 by omega, setl]; rfl), hb⟩

theorem setl_le (vs : List Int) (len p : Nat) : ∀ m, setl vs len m ≤ p ↔ ∀ j, p ≤ j → j < m → gi vs j = gi vs (j + len) := by
  intro m
  induction m with
  | zero => simp [setl]
  | succ m ih =>
    unfold setl
    by_cases he : gi vs m = gi vs (m + len)
    · rw [if_pos he, ih]
      constructor
      · intro h j hj hm
        by_cases hjm : j = m
        · subst hjm; exact he
        · exact h j hj (by omega)
      · intro h j hj hm
        exact h j hj (by omega)
    · rw [if_neg he]
      constructor
      · intro h j hj hm
        omega
      · intro h
        apply Classical.byContradiction
        intro hn
        exact he (h m (by omega) (by omega))

/-- vs repeats with len from p on. -/
def repB (vs : List Int) (p len : Nat) : Bool := decide (setl vs len (vs.length - len) ≤ p)

set_option maxHeartbeats 400000 in
theorem repeatsI_any (A : Option Addr) (c : Nat) (vs : List Int) (p l : Int) (w : World) (B : Nat) (hB : B ≤ w.heap.size) (h : RdI w B A c vs) :
    Calls Try.prog 14 #[.slice A vs.length c, .agg #[.int .i64 p, .int .i64 l]] w fun e w' => e = .returned (.bool (goodPerB p l && repB vs p.toNat l.toNat)) ∧ Below w.heap.size w w' := by
  cases hg : goodPerB p l
  · have HC : Hid (∀ W', Calls Try.prog 13 #[.agg #[.int .i64 p, .int .i64 l]] W' fun e w' => e = .returned (.bool false) ∧ Below W'.heap.size W' w') := fun W' => by have := goodPerI_any p l W'; rwa [hg] at this
    go_enter Try.func14, Try.ntmps14
    go_wp2
    have hzW : w.heap.size < (w.alloc (.cells #[.int .i64 p, .int .i64 l] 27)).heap.size := by simp
    have hAW : Below w.heap.size w (w.alloc (.cells #[.int .i64 p, .int .i64 l] 27)) := (Below.refl _ _).alloc (Nat.le_refl _) _
    have c0W : (w.alloc (.cells #[.int .i64 p, .int .i64 l] 27)).cell? ⟨w.heap.size, 0, none⟩ = some (.int .i64 p) := by simp [go_sem]
    have c1W : (w.alloc (.cells #[.int .i64 p, .int .i64 l] 27)).cell? ⟨w.heap.size, 1, none⟩ = some (.int .i64 l) := by simp [go_sem]
    generalize w.alloc (.cells #[.int .i64 p, .int .i64 l] 27) = W at *
    have hx0 := fun x => (grow_cell w.heap.size 0 hzW x).trans c0W
    have hx1 := fun x => (grow_cell w.heap.size 1 hzW x).trans c1W
    refine wp_region_inv (Below W.heap.size W) (grow0 _) (by kernel_rfl) (by kernel_rfl) ?_
    repeat (go_big_quiet_step ((go_at_call 13; exact grow_step (HC.out _))))
    refine wpQuiet_nil ?_
    intro w' hw'
    have hb := grow_of hw'
    clear hw'
    go_wp2
    go_ret
    exact ⟨rfl, hAW.trans (hb.mono (by omega))⟩
  · have hg' := hg
    simp [goodPerB] at hg'
    obtain ⟨p, rfl⟩ := Int.eq_ofNat_of_zero_le hg'.1
    obtain ⟨l, rfl⟩ := Int.eq_ofNat_of_zero_le (show 0 ≤ l by omega)
    have HC : Hid (∀ W', Calls Try.prog 13 #[.agg #[.int .i64 p, .int .i64 l]] W' fun e w' => e = .returned (.bool true) ∧ Below W'.heap.size W' w') := fun W' => by have := goodPerI_any p l W'; rwa [hg] at this
    have hs := h.len
    simp only [Int.toNat_natCast, Bool.true_and]
    clear hg
    by_cases hr : setl vs l (vs.length - l) ≤ p
    all_goals
      go_enter Try.func14, Try.ntmps14
      go_wp2
      have hzW : w.heap.size < (w.alloc (.cells #[.int .i64 p, .int .i64 l] 27)).heap.size := by simp
      have hAW : Below w.heap.size w (w.alloc (.cells #[.int .i64 p, .int .i64 l] 27)) := (Below.refl _ _).alloc (Nat.le_refl _) _
      have c0W : (w.alloc (.cells #[.int .i64 p, .int .i64 l] 27)).cell? ⟨w.heap.size, 0, none⟩ = some (.int .i64 p) := by simp [go_sem]
      have c1W : (w.alloc (.cells #[.int .i64 p, .int .i64 l] 27)).cell? ⟨w.heap.size, 1, none⟩ = some (.int .i64 l) := by simp [go_sem]
      generalize w.alloc (.cells #[.int .i64 p, .int .i64 l] 27) = W at *
      have HR : Hid (∀ x : Wd (Below W.heap.size W), RdI (inst _ x) B A c vs) := fun x => (h.below hAW hB).below (inst_inv x) (by have := hAW.size; omega)
      have hx0 := fun x => (grow_cell w.heap.size 0 hzW x).trans c0W
      have hx1 := fun x => (grow_cell w.heap.size 1 hzW x).trans c1W
      refine wp_region_inv (Below W.heap.size W) (grow0 _) (by kernel_rfl) (by kernel_rfl) ?_
      repeat (go_big_quiet_step (first
        | (go_at_call 13; exact grow_step (HC.out _))
        | (go_at_call 44; exact grow_step (settled_any _ _ _ _ _ B (by have := hAW.size; exact Nat.le_trans (by omega) (grow_size _)) (HR.out _) (by omega) (by omega)))))
      refine wpQuiet_nil ?_
      intro w' hw'
      have hb := grow_of hw'
      clear hw'
      go_wp2
      go_ret
      exact ⟨by simp [repB, hr], hAW.trans (hb.mono (by omega))⟩

/-- The first length from len on, fuel of them tried, at which vs has a period with room for two. -/
def lp (vs : List Int) (len : Nat) : Nat → Option (Nat × Nat)
  | 0 => none
  | f + 1 => if setl vs len (vs.length - len) + 2 * len ≤ vs.length then some (setl vs len (vs.length - len), len) else lp vs (len + 1) f
def perV : Option (Nat × Nat) → Value
  | some (p, l) => .tuple #[.agg #[.int .i64 p, .int .i64 l], .bool true]
  | none => .tuple #[.agg #[.int .i64 0, .int .i64 0], .bool false]
def leastPer (vs : List Int) : Option (Nat × Nat) := if 2 ≤ vs.length ∧ vs.length ≤ 301 then lp vs 1 300 else none
theorem setl_bound (vs : List Int) (len : Nat) : ∀ m, setl vs len m ≤ m := by
  intro m
  induction m with
  | zero => simp [setl]
  | succ m ih => unfold setl; split <;> omega

set_option maxHeartbeats 400000 in
theorem leastI_any (A : Option Addr) (c : Nat) (vs : List Int) (w : World) (B : Nat) (hB : B ≤ w.heap.size) (h : RdI w B A c vs) :
    Calls Try.prog 11 #[.slice A vs.length c] w fun e w' => e = .returned (perV (leastPer vs)) ∧ Below w.heap.size w w' := by
  have h1 := h.len
  have h2 := h.max
  by_cases hn : 2 ≤ vs.length ∧ vs.length ≤ 301
  · have e0 : leastPer vs = lp vs 1 300 := if_pos hn
    rw [e0]; clear e0
    obtain ⟨hn1, hn2⟩ := hn
    go_enter Try.func11, Try.ntmps11
    go_wp2
    have hB1 := Blk.new w 27 #[.int .i64 0, .int .i64 0]
    have hb1 : Below w.heap.size w (w.alloc (.cells #[.int .i64 0, .int .i64 0] 27)) := (Below.refl _ _).alloc (Nat.le_refl _) _
    go_loopw [4] (fun i wr => ∃ k : Nat, i = .int .i64 k ∧ 1 ≤ k ∧ k ≤ 301 ∧ lp vs 1 300 = lp vs k (301 - k) ∧ Below w.heap.size w wr ∧ Blk wr w.heap.size 27 #[.int .i64 0, .int .i64 0])
      (fun i _ => (301 - (intOf i)).toNat)
    case atStart => exact ⟨1, rfl, by omega, by omega, rfl, hb1, hB1⟩
    case round =>
      clear hB1 hb1
      obtain ⟨k, rfl, hk1, hk2, hs, hb, hB1⟩ := hrel
      have HS := Lib.hid hs; clear hs
      have hlt := hB1.lt
      by_cases hk : k ≤ 300
      · have hsb := setl_bound vs k (vs.length - k)
        have hgp : goodPerB (setl vs k (vs.length - k)) k = true := by simp [goodPerB]; omega
        by_cases ht : setl vs k (vs.length - k) + 2 * k ≤ vs.length
        · have e1 : lp vs k (301 - k) = some (setl vs k (vs.length - k), k) := by
            rw [show 301 - k = (300 - k) + 1 by omega, lp, if_pos ht]
          rw [e1] at HS
          have HE := Lib.hid e1; clear e1
          go_wp2_with fail
          refine (settled_any _ _ _ _ _ B (by omega) (h.below hb hB) (by omega) (by omega)).mono ?_; rintro e w1 ⟨rfl, hb2⟩
          have hz2 := hb2.size
          go_wp2_with fail
          have hP := Blk.new w1 27 #[.int .i64 (setl vs k (vs.length - k)), .int .i64 k]
          have hR := (hB1.below hb2 (by omega)).alloc (.cells #[.int .i64 (setl vs k (vs.length - k)), .int .i64 k] 27)
          have hb3 : Below w.heap.size w (w1.alloc (.cells #[.int .i64 (setl vs k (vs.length - k)), .int .i64 k] 27)) := (hb.trans (hb2.mono (by omega))).alloc (by omega) _
          have hz3 : (w1.alloc (.cells #[.int .i64 (setl vs k (vs.length - k)), .int .i64 k] 27)).heap.size = w1.heap.size + 1 := by simp
          generalize w1.alloc (.cells #[.int .i64 (setl vs k (vs.length - k)), .int .i64 k] 27) = W at *
          refine (goodPerI_any _ _ _).mono ?_; rintro e w2 ⟨rfl, hb4⟩
          have hP2 := hP.below hb4 (by omega)
          have hR2 := hR.below hb4 (by omega)
          have p0 := Blk.cell hP2 0
          have p1 := Blk.cell hP2 1
          have pf0 := Blk.frozen hP2 0
          have pf1 := Blk.frozen hP2 1
          have r0 := Blk.cell hR2 0
          have r1 := Blk.cell hR2 1
          have rf0 := Blk.frozen hR2 0
          have rf1 := Blk.frozen hR2 1
          have hne : ¬ w1.heap.size = w.heap.size := by omega
          go_wp2
          refine bodyPost_ret (v := .tuple #[.agg #[.int .i64 (setl vs k (vs.length - k)), .int .i64 k], .bool true]) (by simp [results, Try.results11, go_sem, r0, r1]) rfl ⟨by rw [HS.out]; rfl, ?_⟩
          exact ((hb3.trans (hb4.mono (by omega))).setCell (by simp) _).setCell (by simp) _
        · have e1 : lp vs k (301 - k) = lp vs (k + 1) (301 - (k + 1)) := by
            rw [show 301 - k = (300 - k) + 1 by omega, lp, if_neg ht, show 301 - (k + 1) = 300 - k by omega]
          rw [e1] at HS
          have HE := Lib.hid e1; clear e1
          go_wp2_with fail
          refine (settled_any _ _ _ _ _ B (by omega) (h.below hb hB) (by omega) (by omega)).mono ?_; rintro e w1 ⟨rfl, hb2⟩
          have hz2 := hb2.size
          go_wp2_with fail
          have hP := Blk.new w1 27 #[.int .i64 (setl vs k (vs.length - k)), .int .i64 k]
          have hR := (hB1.below hb2 (by omega)).alloc (.cells #[.int .i64 (setl vs k (vs.length - k)), .int .i64 k] 27)
          have hb3 : Below w.heap.size w (w1.alloc (.cells #[.int .i64 (setl vs k (vs.length - k)), .int .i64 k] 27)) := (hb.trans (hb2.mono (by omega))).alloc (by omega) _
          have hz3 : (w1.alloc (.cells #[.int .i64 (setl vs k (vs.length - k)), .int .i64 k] 27)).heap.size = w1.heap.size + 1 := by simp
          generalize w1.alloc (.cells #[.int .i64 (setl vs k (vs.length - k)), .int .i64 k] 27) = W at *
          refine (goodPerI_any _ _ _).mono ?_; rintro e w2 ⟨rfl, hb4⟩
          have hP2 := hP.below hb4 (by omega)
          have hR2 := hR.below hb4 (by omega)
          have p0 := Blk.cell hP2 0
          have p1 := Blk.cell hP2 1
          have hne : ¬ w1.heap.size = w.heap.size := by omega
          go_wp2
          go_roundw
          case rel => exact ⟨k + 1, by go_num, by omega, by omega, HS.out, hb3.trans (hb4.mono (by omega)), hR2⟩
          case measure => simp [intOf]; omega
      · have e1 : lp vs k (301 - k) = none := by rw [show 301 - k = 0 by omega, lp]
        rw [e1] at HS
        have r0 := Blk.cell hB1 0
        have r1 := Blk.cell hB1 1
        have rf0 := Blk.frozen hB1 0
        have rf1 := Blk.frozen hB1 1
        go_wp2
        refine bodyPost_ret (v := .tuple #[.agg #[.int .i64 0, .int .i64 0], .bool false]) (by simp [results, Try.results11, go_sem, r0, r1]) rfl ⟨by rw [HS.out]; rfl, ?_⟩
        exact (hb.setCell (by simp) _).setCell (by simp) _
  · have e0 : leastPer vs = none := if_neg hn
    rw [e0]; clear e0
    by_cases hn1 : vs.length < 2
    all_goals
      go_enter Try.func11, Try.ntmps11
      go_wp2
      refine bodyPost_ret (v := .tuple #[.agg #[.int .i64 0, .int .i64 0], .bool false]) (by simp [results, Try.results11, go_sem]) rfl ⟨rfl, ?_⟩
      (repeat (first | exact Below.refl _ _ | refine Below.setCell ?_ (by simp) _ | refine Below.alloc ?_ (by first | exact Nat.le_refl _ | (simp; done) | (simp; omega)) _ | refine bdrew ?_ _))

set_option maxHeartbeats 400000 in
theorem repFromS_any (A : Option Addr) (c : Nat) (vs : List Int) (p l : Nat) (w : World) (B : Nat) (hB : B ≤ w.heap.size) (h : RdI w B A c vs) (hl : 1 ≤ l) (hl2 : l ≤ 1000000) (hp2 : p ≤ 1000000) :
    Calls Try.prog 49 #[.slice A vs.length c, .agg #[.int .i64 p, .int .i64 l]] w fun e w' => e = .returned (.bool (repB vs p l)) ∧ Below w.heap.size w w' := by
  have h1 := h.len
  have h2 := h.max
  go_enter Try.func49, Try.ntmps49
  go_wp2
  have hzW : w.heap.size < (w.alloc (.cells #[.int .i64 p, .int .i64 l] 27)).heap.size := by simp
  have hAW : Below w.heap.size w (w.alloc (.cells #[.int .i64 p, .int .i64 l] 27)) := (Below.refl _ _).alloc (Nat.le_refl _) _
  have c0W : (w.alloc (.cells #[.int .i64 p, .int .i64 l] 27)).cell? ⟨w.heap.size, 0, none⟩ = some (.int .i64 p) := by simp [go_sem]
  have c1W : (w.alloc (.cells #[.int .i64 p, .int .i64 l] 27)).cell? ⟨w.heap.size, 1, none⟩ = some (.int .i64 l) := by simp [go_sem]
  generalize w.alloc (.cells #[.int .i64 p, .int .i64 l] 27) = W at *
  go_loopw [5] (fun i wr => ∃ k : Nat, i = .int .i64 k ∧ p ≤ k ∧ (k ≤ p ∨ k + l ≤ vs.length) ∧ (∀ j, p ≤ j → j < k → gi vs j = gi vs (j + l)) ∧ Below W.heap.size W wr)
    (fun i _ => vs.length + p - (intOf i).toNat)
  case atStart => exact ⟨p, rfl, by omega, .inl (by omega), fun j hj hj2 => absurd hj2 (by omega), Below.refl _ _⟩
  case round =>
    obtain ⟨k, rfl, hk1, hk2, hs, hb⟩ := hrel
    have HS := Lib.hid hs; clear hs
    have q0 := (hb.cell (p := ⟨w.heap.size, 0, none⟩) hzW).trans c0W
    have q1 := (hb.cell (p := ⟨w.heap.size, 1, none⟩) hzW).trans c1W
    by_cases hk : k + l < vs.length
    · obtain ⟨b, o, rfl, hbB, hc⟩ := ((h.below hAW hB).below hb (by omega)).at (j := k) (by omega)
      have hc1 := hc k (by omega)
      have hc2 := hc (k + l) (by omega)
      clear hc
      by_cases he : gi vs k = gi vs (k + l)
      · have ht : (gi vs k != gi vs (k + l)) = false := by simp [he]
        have HE := Lib.hid he; clear he
        go_wp2
        go_quiet (fail)
        go_wp2
        go_roundw
        case rel => exact ⟨k + 1, by go_num, by omega, .inr (by omega), fun j hj hj2 => if hjk : j = k then by subst hjk; exact HE.out else HS.out j hj (by omega), bdrew hb _⟩
        case measure => simp [intOf]; omega
      · have ht : (gi vs k != gi vs (k + l)) = true := by simp [he]
        have HE := Lib.hid he; clear he
        go_wp2
        go_quiet (fail)
        go_wp2
        go_ret
        refine ⟨ret_bool ?_, hAW.trans ((bdrew hb _).mono (by omega))⟩
        simp only [repB, Bool.false_eq, decide_eq_false_iff_not]
        rw [setl_le]
        exact fun hh => HE.out (hh k hk1 (by omega))
    · go_wp2
      go_ret
      refine ⟨ret_bool ?_, hAW.trans (hb.mono (by omega))⟩
      simp only [repB, Bool.true_eq, decide_eq_true_eq]
      rw [setl_le]
      exact fun j hj hj2 => HS.out j hj (by omega)
end Go.Proofs.Ytmdnbmdkommmkaa
