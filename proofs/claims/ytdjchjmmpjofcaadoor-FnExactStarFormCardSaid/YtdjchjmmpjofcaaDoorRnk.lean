/- Ranks of options, and a sort of one entry: by contract. Conditions: none. -/
import Derived.Test.YtdjchjmmpjofcaaDoorSo
import Derived.Test.YtdjchjmmpjofcaaDoorSort
import Derived.Test.YtdjchjmmpjofcaaDoorRow1
namespace Go.Proofs.YtdjchjmmpjofcaaDoor
open Go.RowKit Go.Maps
set_option linter.unusedVariables false

theorem len1_any (w : World) : Calls Tryd.prog 36 #[.int .u64 1] w fun e w' => e = .returned (.int .i64 1) ∧ w' = w := by
  have HL : Hid (∀ W, Calls Tryd.prog 52 #[.int .u64 1] W fun e w' => e = .returned (.int .i64 1) ∧ w' = W) := Lib.hid fun W => by
    go_enter Tryd.func52, Tryd.ntmps52
    go_wp2
    go_ret
    exact ⟨congrArg (fun z => Ending.returned (.int .i64 z)) (by kernel_rfl : wrap64 (wrap64 (Lib.len8 1)) = 1), rfl⟩
  go_enter Tryd.func36, Tryd.ntmps36
  go_wp2_with (go_at_call 52; (with_reducible refine (HL.out _).mono ?_); rintro e w1 ⟨rfl, rfl⟩)
  go_ret
  exact ⟨rfl, rfl⟩
set_option maxHeartbeats 1600000 in
theorem ins1_any (A : Option Addr) (c : Nat) (f : Value) (w : World) : Calls Tryd.prog 54 #[.slice A 1 c, .int .i64 0, .int .i64 1, f] w fun e w' => e = .returned (.tuple #[]) ∧ w' = w := by
  go_enter Tryd.func54, Tryd.ntmps54
  go_wp2_with fail
  go_loopw [8] (fun i wr => i = .int .i64 1 ∧ wr = w) (fun _ _ => 0)
  case atStart => exact ⟨rfl, rfl⟩
  case round =>
    obtain ⟨rfl, hw⟩ := hrel
    have h2 := hw.symm
    subst h2
    clear hw
    go_wp2_with fail
    go_end0
    exact ⟨rfl, rfl⟩
set_option maxHeartbeats 1600000 in
theorem pdq1_any (A : Option Addr) (c : Nat) (f : Value) (w : World) : Calls Tryd.prog 39 #[.slice A 1 c, .int .i64 0, .int .i64 1, .int .i64 1, f] w fun e w' => e = .returned (.tuple #[]) ∧ w' = w := by
  have HI := Lib.hid fun W => ins1_any A c f W
  go_enter Tryd.func39, Tryd.ntmps39
  go_wp2_with fail
  go_loopw [1, 2, 3, 10, 11] (fun x y l p q wr => x = .int .i64 0 ∧ y = .int .i64 1 ∧ l = .int .i64 1 ∧ wr = w) (fun _ _ _ _ _ _ => 0)
  case atStart => exact ⟨rfl, rfl, rfl, rfl⟩
  case round =>
    obtain ⟨rfl, rfl, rfl, hw⟩ := hrel
    have h2 := hw.symm
    subst h2
    clear hw
    go_wp2_with (go_at_call 54; (with_reducible refine (HI.out _).mono ?_); rintro e w1 ⟨rfl, rfl⟩)
    refine bodyPost_ret (results_none rfl _ _ _) rfl ?_
    exact ⟨rfl, rfl⟩
set_option maxHeartbeats 1600000 in
theorem sortE_any (A : Option Addr) (c : Nat) (f : Value) (w : World) : Calls Tryd.prog 28 #[.slice A 1 c, f] w fun e w' => e = .returned (.tuple #[]) ∧ w' = w := by
  have HL := Lib.hid fun W => len1_any W
  have HPD := Lib.hid fun W => pdq1_any A c f W
  go_enter Tryd.func28, Tryd.ntmps28
  go_wp2_with (first | (go_at_call 36; (with_reducible refine (HL.out _).mono ?_); rintro e w1 ⟨rfl, rfl⟩) | (go_at_call 39; (with_reducible refine (HPD.out _).mono ?_); rintro e w1 ⟨rfl, rfl⟩))
  go_end0
  exact ⟨rfl, rfl⟩
/-- Block b holds the ranks of the games below k. -/
def RankM (w : World) (b k : Nat) : Prop :=
  ∃ D : DataW Unit, w.ownsMap Tryd.prog 3 (plainElem (H := Unit) Tryd.prog 3) b k D ∧ ∀ j : Nat, j < k → D.atKey (.int .i64 (j : Int)) (.lit (.int .i64 0)) = .lit (.int .i64 (j : Int))
theorem RankM.new (w : World) : RankM (w.alloc (.map #[] 0)) w.heap.size 0 := ⟨.map [], World.ownsMap_made w _ _ _, fun j hj => absurd hj (Nat.not_lt_zero _)⟩
theorem RankM.kept {w w' : World} {b k : Nat} {row : Option Nat} (h : RankM w b k) (hg : w.grownBy w' row) (hne : some b ≠ row) : RankM w' b k := by
  obtain ⟨D, h1, h2⟩ := h
  exact ⟨D, h1.kept hg hne, h2⟩
theorem RankM.lt {w : World} {b k : Nat} (h : RankM w b k) : b < w.heap.size := by
  obtain ⟨D, h1, h2⟩ := h
  exact h1.lt
theorem RankM.put {w' : World} {b k : Nat} {D : DataW Unit} (hm : IsMap D) (h : ∀ j : Nat, j < k → D.atKey (.int .i64 (j : Int)) (.lit (.int .i64 0)) = .lit (.int .i64 (j : Int)))
    (ho : w'.ownsMap Tryd.prog 3 (plainElem (H := Unit) Tryd.prog 3) b (k + 1) (D.put (.int .i64 (k : Int)) (.lit (.int .i64 (k : Int))))) : RankM w' b (k + 1) := by
  refine ⟨_, ho, fun j hj => ?_⟩
  by_cases e : j = k
  · subst e
    rw [atKey_put_same hm (by trivial)]
  · rw [atKey_put_other (fun h => e (by injection h with _ h; omega)), h j (by omega)]
theorem lit_int {a b : Int} (h : (DataW.lit (.int .i64 a) : DataW Unit) = .lit (.int .i64 b)) : a = b := by
  simp only [DataW.lit.injEq, Lit.int.injEq, true_and] at h
  exact h
theorem keyOfI (t : Nat) (h : t ≤ 1000) : keyOf Tryd.prog 3 (.int .i64 (t : Int)) = some (.int .i64 (t : Int)) := key_of t h

set_option maxHeartbeats 1600000 in
theorem ranked_any (A : Option Addr) (c i b k : Nat) (w : World) (B : Nat) (hi : i ≤ k) (hk : k ≤ 20) (hB : B ≤ w.heap.size) (h : RdI w B A c (rng i)) (hR : RankM w b k) :
    Calls Tryd.prog 27 #[.slice A i c, .map (some b)] w fun e w' => ∃ g cap, e = .returned (.slice (some ⟨g, 0, none⟩) i cap) ∧ Own w' w.heap.size 3 (.slice (some ⟨g, 0, none⟩) i cap) (ints (rng i)) ∧ Below w.heap.size w w' := by
  have h1 := h.len
  have h2 := h.max
  rw [rng_len] at h1
  have HR := Lib.hid hR
  have HI := Lib.hid h
  have hbw := hR.lt
  clear hR h
  go_enter Tryd.func27, Tryd.ntmps27
  go_wp2_with (refine make_ints rfl _ _ rfl i rfl rfl (by omega) ?_; intro w1 ho1 hb1 hz1)
  have HO1 := Lib.hid (own_ints.1 ho1)
  have HB1 := Lib.hid hb1
  clear ho1 hb1
  go_loopw [13] (fun x wr => ∃ j : Nat, x = .int .i64 j ∧ j ≤ i ∧ Own wr w.heap.size 3 (.slice (some ⟨w.heap.size, 0, none⟩) i i) (ints (rng j ++ List.replicate (i - j) 0)) ∧ Below w.heap.size w wr) (fun x _ => i - (intOf x).toNat)
  case atStart => exact ⟨0, rfl, Nat.zero_le _, HO1.out, HB1.out⟩
  case round =>
    clear HO1 HB1 hz1
    obtain ⟨j, rfl, hj, ho, hb⟩ := hrel
    have hlen : (rng j ++ List.replicate (i - j) 0).length = i := by rw [List.length_append, rng_len, List.length_replicate]; omega
    have HO := Lib.hid ho
    have HB := Lib.hid hb
    by_cases hlt : j < i
    · obtain ⟨bo, oo, rfl, -, hc⟩ := (RdI.below HI.out hb hB).at (j := j) (by rw [rng_len]; exact hlt)
      have hct := hc j (by rw [rng_len]; exact hlt)
      rw [gi_rng i j hlt] at hct
      obtain ⟨g0, hA0, -, -, -, hcell, hfr⟩ := ho.at (by rw [ints_len, hlen]; omega)
      injection hA0 with hA0
      injection hA0 with hA0
      subst hA0
      have hgj : gi (rng j ++ List.replicate (i - j) 0) j = 0 := by
        unfold gi
        rw [List.getD_eq_getElem?_getD, List.getElem?_append_right (by rw [rng_len]; exact Nat.le_refl _), rng_len, Nat.sub_self, List.getElem?_replicate, if_pos (by omega)]
        rfl
      have hcj := hcell j _ (ints_at _ j (by rw [hlen]; exact hlt))
      rw [hgj] at hcj
      have hfj := hfr j
      have ho' : wr.ownsRow w.heap.size 3 1 (.slice (some ⟨w.heap.size, 0, none⟩) i i) i (ints (rng j ++ List.replicate (i - j) 0)) := by
        have := ho
        unfold Own at this
        rw [ints_len, hlen] at this
        exact this
      have hs := (ho'.stored j (.int .i64 (j : Int))).1
      have hset : (rng j ++ List.replicate (i - j) 0).set j (j : Int) = rng (j + 1) ++ List.replicate (i - (j + 1)) 0 := by
        rw [List.set_append_right _ _ (by rw [rng_len]; exact Nat.le_refl _), rng_len, Nat.sub_self, show i - j = (i - (j + 1)) + 1 by omega, List.replicate_succ, List.set_cons_zero, rng_succ]
        simp
      rw [ints_set, hset] at hs
      have HS : Hid (Own (wr.setCell ⟨w.heap.size, j, none⟩ (.int .i64 (j : Int))) w.heap.size 3 (.slice (some ⟨w.heap.size, 0, none⟩) i i) (ints (rng (j + 1) ++ List.replicate (i - (j + 1)) 0))) := Lib.hid (by
        unfold Own
        rw [ints_len, List.length_append, rng_len, List.length_replicate, show j + 1 + (i - (j + 1)) = i by omega]
        exact hs)
      obtain ⟨D, hD, hat⟩ := HR.out.kept (grown_below (hb.mono (Nat.le_refl _)) none) (by simp)
      have HAT := Lib.hid (hat j (by omega))
      have hkey := key_of j (by omega)
      clear hc ho ho' hs hset hcell hfr hgj hlen hat hb HO
      go_wp2_with (first
        | (at_lookup; refine wpList_lookup_own_int _ rfl _ _ 43 rfl 3 3 .i64 keyedI Tryd.underlying43 Tryd.underlying3 (zeroInt _) b _ D rfl hD _ _ rfl hkey ?_; intro ci hci hwc; obtain rfl : ci = (j : Int) := (lit_int (HAT.out.symm.trans hci)).symm; clear hci hwc)
        | fail)
      go_roundw
      case rel => exact ⟨j + 1, by go_num, by omega, HS.out, HB.out.setCell (Nat.le_refl _) _⟩
      case measure => simp [intOf]; omega
    · obtain rfl : j = i := by omega
      have HOI : Hid (Own wr w.heap.size 3 (.slice (some ⟨w.heap.size, 0, none⟩) (rng j).length j) (ints (rng j))) := Lib.hid (by
        have := HO.out
        rw [Nat.sub_self, List.replicate_zero, List.append_nil] at this
        rw [rng_len]
        exact this)
      have HSO := Lib.hid (sort_any w.heap.size j w.heap.size (rng j) wr (by rw [rng_len]; omega) HOI.out)
      rw [srt_rng, rng_len] at HSO
      clear ho hb hlen HO
      go_wp2_with (go_at_call 38; (with_reducible refine HSO.out.mono ?_); rintro e w2 ⟨rfl, ho2, hb2⟩)
      go_ret
      exact ⟨_, _, rfl, ho2, HB.out.trans hb2⟩
end Go.Proofs.YtdjchjmmpjofcaaDoor
