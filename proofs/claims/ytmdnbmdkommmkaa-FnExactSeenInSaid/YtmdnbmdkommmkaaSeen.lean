/- l1Put and SeenIn: contracts. Conditions: none. -/
import Derived.Test.YtmdnbmdkommmkaaPutI
import Derived.Test.YtmdnbmdkommmkaaMoves2
import Derived.Deep.RegionHeld3
namespace Go.Proofs.Ytmdnbmdkommmkaa
open Go.RowKit
set_option linter.unusedVariables false

theorem ints_one {l : List Int} {u : Value} (h : u ∈ ints l) : u.oneCell' = true := by
  simp [ints] at h
  obtain ⟨y, -, rfl⟩ := h
  rfl
/-- A row of numbers that can be read; nothing that was there has turned. -/
def ReadI (w : World) (xs : List Int) (e : Ending) (w' : World) : Prop :=
  ∃ A c, e = .returned (.slice A xs.length c) ∧ RdI w' w'.heap.size A c xs ∧ Below w.heap.size w w'

set_option maxRecDepth 100000 in
set_option maxHeartbeats 1600000 in
theorem l1Put_any (A : Option Addr) (c : Nat) (l : List Int) (x : Int) (w : World) (B : Nat) (hB : B ≤ w.heap.size) (h : RdI w B A c l) (hlen : l.length ≤ 1000000) :
    Calls Try.prog 76 #[.slice A l.length c, .int .i64 x] w (ReadI w (putI l x)) := by
  have h1 := h.len
  have h2 := h.max
  go_enter Try.func76, Try.ntmps76
  go_wp2
  go_loop [5] (fun i => ∃ k : Nat, i = .int .i64 k ∧ k ≤ l.length ∧ (∀ j, j < k → gi l j < x)) (fun i => l.length - (intOf i).toNat)
  case atStart => exact ⟨0, rfl, by omega, fun j hj => absurd hj (by omega)⟩
  case round =>
    obtain ⟨k, rfl, hk, hs⟩ := hrel
    have HS := Lib.hid hs; clear hs
    by_cases hlt : k < l.length
    · have hltI : (k : Int) < (l.length : Int) := by omega
      by_cases hlx : gi l k < x
      · obtain ⟨b, o, rfl, hbB, hc⟩ := h.at (j := k) hlt
        have hck := hc k hlt
        clear hc
        have HLX := Lib.hid hlx
        go_wp2
        go_round
        case rel => exact ⟨k + 1, by go_num, by omega, fun j hj => if hjk : j = k then by rw [hjk]; exact HLX.out else HS.out j (by omega)⟩
        case measure => simp [intOf]; omega
      · have hput := putI_at l x k hk HS.out (fun _ => hlx)
        by_cases heq : gi l k = x
        · rw [if_pos ⟨hlt, heq⟩] at hput
          have HP := Lib.hid hput; clear hput
          have HRD := Lib.hid h
          obtain ⟨b, o, rfl, hbB, hc⟩ := h.at (j := k) hlt
          have hck := hc k hlt
          rw [heq] at hck
          clear hc heq hlx h
          go_wp2
          go_ret
          exact ⟨_, _, by rw [HP.out]; rfl, by rw [HP.out]; exact HRD.out.more hB, Below.refl _ _⟩
        · rw [if_neg fun hh => heq hh.2] at hput
          have HNo := Lib.hid hput; clear hput
          have hrd : Rd w B A c (ints l) := h
          obtain ⟨b, o, rfl, hbB, hc⟩ := h.at (j := k) hlt
          have hck0 := hc k hlt
          clear hc h
          have hck' : ¬ c = k := by omega
          go_wp2
          have hlc := hrd.1
          rw [ints_len] at hlc
          have hkI : (0 : Int) ≤ (k : Int) := by omega
          have hkl : (k : Int) ≤ (l.length : Int) := by omega
          have hkc : (k : Int) ≤ (c : Int) := by omega
          have hlcI : (l.length : Int) ≤ (c : Int) := by omega
          have E5 : Hid (([] : List Value).length + ((ints l).take k).length = k) := by show _ = _; rw [List.length_nil, List.length_take, ints_len]; omega
          have E6 : Hid (([] ++ (ints l).take k : List Value).length + [Value.int .i64 x].length = k + 1) := by show _ = _; rw [List.nil_append, List.length_take, List.length_singleton, ints_len]; omega
          have E7 : Hid (([] ++ (ints l).take k ++ [Value.int .i64 x] : List Value).length + ((ints l).drop k).length = l.length + 1) := by show _ = _; rw [List.nil_append, List.length_append, List.length_take, List.length_singleton, List.length_drop, ints_len]; omega
          go_region_held3 (fun w' => True) (trivial)
            (first
              | (refine step_append_rd (by rfl) (.tmp 33) (.tmp 36) 24 3 (.int .i64 0) 8 (by rfl) Try.underlying24 infoInt rfl (by omega) w.heap.size (.slice (some ⟨_, 0, none⟩) 0 0) [] (by rfl) (by first | exact Own.of_blk (Blk.new_at _ _ _ (by simp)) (by first | (simp; done) | (simp; omega)) | exact Own.of_blk ((Blk.new_at _ _ _ (by simp)).alloc _) (by first | (simp; done) | (simp; omega))) B _ _ _ ((ints l).take k) (by rfl) (by first | (rw [List.length_take, ints_len]; omega) | (simp [ints_len]; done) | (simp [ints_len]; omega)) (by exact ((hrd.below (B' := w.heap.size) (by (repeat (first | exact Below.refl _ _ | refine Below.drew ?_ | refine Below.alloc ?_ (by first | (simp; done) | (simp; omega)) _))) (by omega)).take k)) (fun u hu => ints_one (List.mem_of_mem_take hu)) (by rw [E5.out]; omega) (by first | (simp; done) | (simp; omega)) ?_; intro A5 c5 w5 ho5 hb5 hg5; rw [E5.out] at ho5 ⊢; have q5 : Below w.heap.size w w5 := Below.trans (by (repeat (first | exact Below.refl _ _ | refine Below.drew ?_ | refine Below.alloc ?_ (by first | (simp; done) | (simp; omega)) _))) hb5)
              | (refine step_append_rd (by rfl) (.tmp 37) (.tmp 39) 24 3 (.int .i64 0) 8 (by rfl) Try.underlying24 infoInt rfl (by omega) w.heap.size (.slice A5 _ c5) _ (by rfl) (by first | exact ho5 | exact ho5.below (by (repeat (first | exact Below.refl _ _ | refine Below.drew ?_ | refine Below.alloc ?_ (by first | (simp; done) | (simp; omega)) _)))) _ _ _ _ [.int .i64 x] (by rfl) rfl (by first | exact Rd.of_blk (Blk.new_at _ _ _ (by simp)) (Nat.lt_succ_self _) | exact Rd.of_blk (Blk.grownD hg5 (Blk.new_at _ _ _ (by simp)) (by simp [Value.ownBlock])) (Nat.lt_succ_self _) | exact Rd.of_blk (Blk.grownD hg5 ((Blk.new_at _ _ _ (by simp)).alloc _) (by simp [Value.ownBlock])) (Nat.lt_succ_self _)) (fun u hu => by simp at hu; subst hu; rfl) (by rw [E6.out]; omega) (by have := q5.size; first | omega | (simp; omega)) ?_; intro A6 c6 w6 ho6 hb6 hg6; rw [E6.out] at ho6 ⊢; have q6 : Below w.heap.size w w6 := q5.trans (by first | exact hb6 | exact Below.trans (Below.mono (by (repeat (first | exact Below.refl _ _ | refine Below.drew ?_ | refine Below.alloc ?_ (by first | (simp; done) | (simp; omega)) _))) q5.size) hb6))
              | (refine step_append_rd (by rfl) (.tmp 40) (.tmp 43) 24 3 (.int .i64 0) 8 (by rfl) Try.underlying24 infoInt rfl (by omega) w.heap.size (.slice A6 _ c6) _ (by rfl) ho6 B _ _ _ ((ints l).drop k) (by rfl) (by first | (rw [List.length_drop, ints_len]; done) | (rw [List.length_drop, ints_len]; omega) | (simp [ints_len]; omega)) (by have := (hrd.below q6 (by omega)).cut k (by rw [ints_len]; omega); first | (rw [if_neg hck'] at this; simpa [add_none] using this) | (rw [if_pos rfl] at this; simpa using this)) (fun u hu => ints_one (List.mem_of_mem_drop hu)) (by rw [E7.out]; omega) q6.size ?_; intro A7 c7 w7 ho7 hb7 hg7; rw [E7.out] at ho7 ⊢; have q7 : Below w.heap.size w w7 := q6.trans hb7))
          all_goals
            go_wp2
            go_ret
            refine ⟨A7, c7, ?_, ?_, q7⟩
            · rw [HNo.out]
              have e : (l.take k ++ [x] ++ l.drop k).length = l.length + 1 := by simp; omega
              rw [e]; rfl
            · rw [HNo.out]
              have e2 : ints (l.take k ++ [x] ++ l.drop k) = [] ++ (ints l).take k ++ [Value.int .i64 x] ++ (ints l).drop k := by simp [ints, List.map_take, List.map_drop]
              unfold RdI
              rw [e2]
              exact ho7.rd
    · obtain rfl : k = l.length := by omega
      have hput := putI_at l x l.length (Nat.le_refl _) HS.out (fun hh => absurd hh (by omega))
      rw [if_neg fun hh => hlt hh.1] at hput
      have HNo := Lib.hid hput; clear hput
      have hrd : Rd w B A c (ints l) := h
      clear h
      generalize hkk : l.length = k at *
      have hk1 : k ≤ l.length := by omega
      have hk2 : l.length ≤ k := by omega
      clear hkk hlt
      by_cases hck' : c = k
      · subst c
        obtain ⟨c, hcc1, hcc2⟩ : ∃ c : Nat, k ≤ c ∧ l.length ≤ c := ⟨k, by omega, by omega⟩
        go_wp2
        have hlc := hrd.1
        rw [ints_len] at hlc
        have hkI : (0 : Int) ≤ (k : Int) := by omega
        have hkl : (k : Int) ≤ (l.length : Int) := by omega
        have hkc : (k : Int) ≤ (c : Int) := by omega
        have hlcI : (l.length : Int) ≤ (c : Int) := by omega
        have E5 : Hid (([] : List Value).length + ((ints l).take k).length = k) := by show _ = _; rw [List.length_nil, List.length_take, ints_len]; omega
        have E6 : Hid (([] ++ (ints l).take k : List Value).length + [Value.int .i64 x].length = k + 1) := by show _ = _; rw [List.nil_append, List.length_take, List.length_singleton, ints_len]; omega
        have E7 : Hid (([] ++ (ints l).take k ++ [Value.int .i64 x] : List Value).length + ((ints l).drop k).length = l.length + 1) := by show _ = _; rw [List.nil_append, List.length_append, List.length_take, List.length_singleton, List.length_drop, ints_len]; omega
        go_region_held3 (fun w' => True) (trivial)
          (first
            | (refine step_append_rd (by rfl) (.tmp 33) (.tmp 36) 24 3 (.int .i64 0) 8 (by rfl) Try.underlying24 infoInt rfl (by omega) w.heap.size (.slice (some ⟨_, 0, none⟩) 0 0) [] (by rfl) (by first | exact Own.of_blk (Blk.new_at _ _ _ (by simp)) (by first | (simp; done) | (simp; omega)) | exact Own.of_blk ((Blk.new_at _ _ _ (by simp)).alloc _) (by first | (simp; done) | (simp; omega))) B _ _ _ ((ints l).take k) (by rfl) (by first | (rw [List.length_take, ints_len]; omega) | (simp [ints_len]; done) | (simp [ints_len]; omega)) (by exact ((hrd.below (B' := w.heap.size) (by (repeat (first | exact Below.refl _ _ | refine Below.drew ?_ | refine Below.alloc ?_ (by first | (simp; done) | (simp; omega)) _))) (by omega)).take k)) (fun u hu => ints_one (List.mem_of_mem_take hu)) (by rw [E5.out]; omega) (by first | (simp; done) | (simp; omega)) ?_; intro A5 c5 w5 ho5 hb5 hg5; rw [E5.out] at ho5 ⊢; have q5 : Below w.heap.size w w5 := Below.trans (by (repeat (first | exact Below.refl _ _ | refine Below.drew ?_ | refine Below.alloc ?_ (by first | (simp; done) | (simp; omega)) _))) hb5)
            | (refine step_append_rd (by rfl) (.tmp 37) (.tmp 39) 24 3 (.int .i64 0) 8 (by rfl) Try.underlying24 infoInt rfl (by omega) w.heap.size (.slice A5 _ c5) _ (by rfl) (by first | exact ho5 | exact ho5.below (by (repeat (first | exact Below.refl _ _ | refine Below.drew ?_ | refine Below.alloc ?_ (by first | (simp; done) | (simp; omega)) _)))) _ _ _ _ [.int .i64 x] (by rfl) rfl (by first | exact Rd.of_blk (Blk.new_at _ _ _ (by simp)) (Nat.lt_succ_self _) | exact Rd.of_blk (Blk.grownD hg5 (Blk.new_at _ _ _ (by simp)) (by simp [Value.ownBlock])) (Nat.lt_succ_self _) | exact Rd.of_blk (Blk.grownD hg5 ((Blk.new_at _ _ _ (by simp)).alloc _) (by simp [Value.ownBlock])) (Nat.lt_succ_self _)) (fun u hu => by simp at hu; subst hu; rfl) (by rw [E6.out]; omega) (by have := q5.size; first | omega | (simp; omega)) ?_; intro A6 c6 w6 ho6 hb6 hg6; rw [E6.out] at ho6 ⊢; have q6 : Below w.heap.size w w6 := q5.trans (by first | exact hb6 | exact Below.trans (Below.mono (by (repeat (first | exact Below.refl _ _ | refine Below.drew ?_ | refine Below.alloc ?_ (by first | (simp; done) | (simp; omega)) _))) q5.size) hb6))
            | (refine step_append_rd (by rfl) (.tmp 40) (.tmp 43) 24 3 (.int .i64 0) 8 (by rfl) Try.underlying24 infoInt rfl (by omega) w.heap.size (.slice A6 _ c6) _ (by rfl) ho6 B _ _ _ ((ints l).drop k) (by rfl) (by first | (rw [List.length_drop, ints_len]; done) | (rw [List.length_drop, ints_len]; omega) | (simp [ints_len]; omega)) (by have := (hrd.below q6 (by omega)).cut k (by rw [ints_len]; omega); first | (rw [if_neg hck'] at this; simpa [add_none] using this) | (rw [if_pos rfl] at this; simpa using this)) (fun u hu => ints_one (List.mem_of_mem_drop hu)) (by rw [E7.out]; omega) q6.size ?_; intro A7 c7 w7 ho7 hb7 hg7; rw [E7.out] at ho7 ⊢; have q7 : Below w.heap.size w w7 := q6.trans hb7))
        all_goals
          go_wp2
          go_ret
          refine ⟨A7, c7, ?_, ?_, q7⟩
          · rw [HNo.out]
            have e : (l.take k ++ [x] ++ l.drop k).length = l.length + 1 := by simp; omega
            rw [e]; rfl
          · rw [HNo.out]
            have e2 : ints (l.take k ++ [x] ++ l.drop k) = [] ++ (ints l).take k ++ [Value.int .i64 x] ++ (ints l).drop k := by simp [ints, List.map_take, List.map_drop]
            unfold RdI
            rw [e2]
            exact ho7.rd
      · go_wp2
        have hlc := hrd.1
        rw [ints_len] at hlc
        have hkI : (0 : Int) ≤ (k : Int) := by omega
        have hkl : (k : Int) ≤ (l.length : Int) := by omega
        have hkc : (k : Int) ≤ (c : Int) := by omega
        have hlcI : (l.length : Int) ≤ (c : Int) := by omega
        have E5 : Hid (([] : List Value).length + ((ints l).take k).length = k) := by show _ = _; rw [List.length_nil, List.length_take, ints_len]; omega
        have E6 : Hid (([] ++ (ints l).take k : List Value).length + [Value.int .i64 x].length = k + 1) := by show _ = _; rw [List.nil_append, List.length_take, List.length_singleton, ints_len]; omega
        have E7 : Hid (([] ++ (ints l).take k ++ [Value.int .i64 x] : List Value).length + ((ints l).drop k).length = l.length + 1) := by show _ = _; rw [List.nil_append, List.length_append, List.length_take, List.length_singleton, List.length_drop, ints_len]; omega
        go_region_held3 (fun w' => True) (trivial)
          (first
            | (refine step_append_rd (by rfl) (.tmp 33) (.tmp 36) 24 3 (.int .i64 0) 8 (by rfl) Try.underlying24 infoInt rfl (by omega) w.heap.size (.slice (some ⟨_, 0, none⟩) 0 0) [] (by rfl) (by first | exact Own.of_blk (Blk.new_at _ _ _ (by simp)) (by first | (simp; done) | (simp; omega)) | exact Own.of_blk ((Blk.new_at _ _ _ (by simp)).alloc _) (by first | (simp; done) | (simp; omega))) B _ _ _ ((ints l).take k) (by rfl) (by first | (rw [List.length_take, ints_len]; omega) | (simp [ints_len]; done) | (simp [ints_len]; omega)) (by exact ((hrd.below (B' := w.heap.size) (by (repeat (first | exact Below.refl _ _ | refine Below.drew ?_ | refine Below.alloc ?_ (by first | (simp; done) | (simp; omega)) _))) (by omega)).take k)) (fun u hu => ints_one (List.mem_of_mem_take hu)) (by rw [E5.out]; omega) (by first | (simp; done) | (simp; omega)) ?_; intro A5 c5 w5 ho5 hb5 hg5; rw [E5.out] at ho5 ⊢; have q5 : Below w.heap.size w w5 := Below.trans (by (repeat (first | exact Below.refl _ _ | refine Below.drew ?_ | refine Below.alloc ?_ (by first | (simp; done) | (simp; omega)) _))) hb5)
            | (refine step_append_rd (by rfl) (.tmp 37) (.tmp 39) 24 3 (.int .i64 0) 8 (by rfl) Try.underlying24 infoInt rfl (by omega) w.heap.size (.slice A5 _ c5) _ (by rfl) (by first | exact ho5 | exact ho5.below (by (repeat (first | exact Below.refl _ _ | refine Below.drew ?_ | refine Below.alloc ?_ (by first | (simp; done) | (simp; omega)) _)))) _ _ _ _ [.int .i64 x] (by rfl) rfl (by first | exact Rd.of_blk (Blk.new_at _ _ _ (by simp)) (Nat.lt_succ_self _) | exact Rd.of_blk (Blk.grownD hg5 (Blk.new_at _ _ _ (by simp)) (by simp [Value.ownBlock])) (Nat.lt_succ_self _) | exact Rd.of_blk (Blk.grownD hg5 ((Blk.new_at _ _ _ (by simp)).alloc _) (by simp [Value.ownBlock])) (Nat.lt_succ_self _)) (fun u hu => by simp at hu; subst hu; rfl) (by rw [E6.out]; omega) (by have := q5.size; first | omega | (simp; omega)) ?_; intro A6 c6 w6 ho6 hb6 hg6; rw [E6.out] at ho6 ⊢; have q6 : Below w.heap.size w w6 := q5.trans (by first | exact hb6 | exact Below.trans (Below.mono (by (repeat (first | exact Below.refl _ _ | refine Below.drew ?_ | refine Below.alloc ?_ (by first | (simp; done) | (simp; omega)) _))) q5.size) hb6))
            | (refine step_append_rd (by rfl) (.tmp 40) (.tmp 43) 24 3 (.int .i64 0) 8 (by rfl) Try.underlying24 infoInt rfl (by omega) w.heap.size (.slice A6 _ c6) _ (by rfl) ho6 B _ _ _ ((ints l).drop k) (by rfl) (by first | (rw [List.length_drop, ints_len]; done) | (rw [List.length_drop, ints_len]; omega) | (simp [ints_len]; omega)) (by have := (hrd.below q6 (by omega)).cut k (by rw [ints_len]; omega); first | (rw [if_neg hck'] at this; simpa [add_none] using this) | (rw [if_pos rfl] at this; simpa using this)) (fun u hu => ints_one (List.mem_of_mem_drop hu)) (by rw [E7.out]; omega) q6.size ?_; intro A7 c7 w7 ho7 hb7 hg7; rw [E7.out] at ho7 ⊢; have q7 : Below w.heap.size w w7 := q6.trans hb7))
        all_goals
          go_wp2
          go_ret
          refine ⟨A7, c7, ?_, ?_, q7⟩
          · rw [HNo.out]
            have e : (l.take k ++ [x] ++ l.drop k).length = l.length + 1 := by simp; omega
            rw [e]; rfl
          · rw [HNo.out]
            have e2 : ints (l.take k ++ [x] ++ l.drop k) = [] ++ (ints l).take k ++ [Value.int .i64 x] ++ (ints l).drop k := by simp [ints, List.map_take, List.map_drop]
            unfold RdI
            rw [e2]
            exact ho7.rd
end Go.Proofs.Ytmdnbmdkommmkaa
