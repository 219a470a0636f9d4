/- The losing classes: the program's and the reference's, by contracts. Conditions: none. -/
import Derived.Test.YtbledcogbkeneaaQtI
import Derived.Test.YtbledcogbkeneaaQtS
namespace Go.Proofs.Ytbledcogbkeneaa
open Go.RowKit Go.Maps
set_option linter.unusedVariables false

/-- A row of numbers that can be read, in no block below lo; nothing that was there has turned. -/
def ReadL (w : World) (lo : Nat) (xs : List Int) (e : Ending) (w' : World) : Prop :=
  ∃ A c, e = .returned (.slice A xs.length c) ∧ RdI w' w'.heap.size A c xs ∧ Lo lo A ∧ Below w.heap.size w w'

set_option maxRecDepth 100000 in
set_option maxHeartbeats 1600000 in
theorem lput_any (lo : Nat) (A : Option Addr) (c : Nat) (l : List Int) (x : Int) (w : World) (B : Nat) (hB : B ≤ w.heap.size) (hlo : lo ≤ w.heap.size) (hlA : Lo lo A) (h : RdI w B A c l) (hlen : l.length ≤ 1000000) :
    Calls Try.prog 53 #[.slice A l.length c, .int .i64 x] w (ReadL w lo (putI l x)) := by
  have h1 := h.len
  have h2 := h.max
  go_enter Try.func53, Try.ntmps53
  go_wp2
  go_loop [5] (fun i => ∃ k : Nat, i = .int .i64 k ∧ k ≤ l.length ∧ (∀ j, j < k → gi l j < x)) (fun i => l.length - (intOf i).toNat)
  case atStart => exact ⟨0, rfl, by omega, fun j hj => absurd hj (by omega)⟩
  case round =>
    obtain ⟨k, rfl, hk, hs⟩ := hrel
    have HS := Lib.hid hs; clear hs
    by_cases hlt : k < l.length
    · have hltI : (k : Int) < (l.length : Int) := by omega
      by_cases hlx : gi l k < x
      · obtain ⟨b, o, rfl, hbB, hc⟩ := h.at (j := k) hlt
        have hck := hc k hlt
        clear hc
        have HLX := Lib.hid hlx
        go_wp2
        go_round
        case rel => exact ⟨k + 1, by go_num, by omega, fun j hj => if hjk : j = k then by rw [hjk]; exact HLX.out else HS.out j (by omega)⟩
        case measure => simp [intOf]; omega
      · have hput := putI_at l x k hk HS.out (fun _ => hlx)
        by_cases heq : gi l k = x
        · rw [if_pos ⟨hlt, heq⟩] at hput
          have HP := Lib.hid hput; clear hput
          have HRD := Lib.hid h; have HLA := Lib.hid hlA
          obtain ⟨b, o, rfl, hbB, hc⟩ := h.at (j := k) hlt
          have hck := hc k hlt
          rw [heq] at hck
          clear hc heq hlx h hlA
          go_wp2
          go_ret
          exact ⟨_, _, by rw [HP.out]; rfl, by rw [HP.out]; exact HRD.out.more hB, HLA.out, Below.refl _ _⟩
        · rw [if_neg fun hh => heq hh.2] at hput
          have HNo := Lib.hid hput; clear hput
          have hrd : Rd w B A c (ints l) := h
          obtain ⟨b, o, rfl, hbB, hc⟩ := h.at (j := k) hlt
          have hck0 := hc k hlt
          clear hc h
          have hck' : ¬ c = k := by omega
          go_wp2
          have hlc := hrd.1
          rw [ints_len] at hlc
          have hkI : (0 : Int) ≤ (k : Int) := by omega
          have hkl : (k : Int) ≤ (l.length : Int) := by omega
          have hkc : (k : Int) ≤ (c : Int) := by omega
          have hlcI : (l.length : Int) ≤ (c : Int) := by omega
          have E5 : Hid (([] : List Value).length + ((ints l).take k).length = k) := by show _ = _; rw [List.length_nil, List.length_take, ints_len]; omega
          have E6 : Hid (([] ++ (ints l).take k : List Value).length + [Value.int .i64 x].length = k + 1) := by show _ = _; rw [List.nil_append, List.length_take, List.length_singleton, ints_len]; omega
          have E7 : Hid (([] ++ (ints l).take k ++ [Value.int .i64 x] : List Value).length + ((ints l).drop k).length = l.length + 1) := by show _ = _; rw [List.nil_append, List.length_append, List.length_take, List.length_singleton, List.length_drop, ints_len]; omega
          go_region_held3 (fun w' => True) (trivial)
            (first
              | (refine step_append_rd (by rfl) (.tmp 33) (.tmp 36) 22 3 (.int .i64 0) 8 (by rfl) Try.underlying22 infoInt rfl (by omega) w.heap.size (.slice (some ⟨_, 0, none⟩) 0 0) [] (by rfl) (by first | exact Own.of_blk (Blk.new_at _ _ _ (by simp)) (by first | (simp; done) | (simp; omega)) | exact Own.of_blk ((Blk.new_at _ _ _ (by simp)).alloc _) (by first | (simp; done) | (simp; omega))) B _ _ _ ((ints l).take k) (by rfl) (by first | (rw [List.length_take, ints_len]; omega) | (simp [ints_len]; done) | (simp [ints_len]; omega)) (by exact ((hrd.below (B' := w.heap.size) (by (repeat (first | exact Below.refl _ _ | refine Below.drew ?_ | refine Below.alloc ?_ (by first | (simp; done) | (simp; omega)) _))) (by omega)).take k)) (fun u hu => ints_one (List.mem_of_mem_take hu)) (by rw [E5.out]; omega) (by first | (simp; done) | (simp; omega)) ?_; intro A5 c5 w5 ho5 hb5 hg5; rw [E5.out] at ho5 ⊢; have q5 : Below w.heap.size w w5 := Below.trans (by (repeat (first | exact Below.refl _ _ | refine Below.drew ?_ | refine Below.alloc ?_ (by first | (simp; done) | (simp; omega)) _))) hb5)
              | (refine step_append_rd (by rfl) (.tmp 37) (.tmp 39) 22 3 (.int .i64 0) 8 (by rfl) Try.underlying22 infoInt rfl (by omega) w.heap.size (.slice A5 _ c5) _ (by rfl) (by first | exact ho5 | exact ho5.below (by (repeat (first | exact Below.refl _ _ | refine Below.drew ?_ | refine Below.alloc ?_ (by first | (simp; done) | (simp; omega)) _)))) _ _ _ _ [.int .i64 x] (by rfl) rfl (by first | exact Rd.of_blk (Blk.new_at _ _ _ (by simp)) (Nat.lt_succ_self _) | exact Rd.of_blk (Blk.grownD hg5 (Blk.new_at _ _ _ (by simp)) (by simp [Value.ownBlock])) (Nat.lt_succ_self _) | exact Rd.of_blk (Blk.grownD hg5 ((Blk.new_at _ _ _ (by simp)).alloc _) (by simp [Value.ownBlock])) (Nat.lt_succ_self _)) (fun u hu => by simp at hu; subst hu; rfl) (by rw [E6.out]; omega) (by have := q5.size; first | omega | (simp; omega)) ?_; intro A6 c6 w6 ho6 hb6 hg6; rw [E6.out] at ho6 ⊢; have q6 : Below w.heap.size w w6 := q5.trans (by first | exact hb6 | exact Below.trans (Below.mono (by (repeat (first | exact Below.refl _ _ | refine Below.drew ?_ | refine Below.alloc ?_ (by first | (simp; done) | (simp; omega)) _))) q5.size) hb6))
              | (refine step_append_rd (by rfl) (.tmp 40) (.tmp 43) 22 3 (.int .i64 0) 8 (by rfl) Try.underlying22 infoInt rfl (by omega) w.heap.size (.slice A6 _ c6) _ (by rfl) ho6 B _ _ _ ((ints l).drop k) (by rfl) (by first | (rw [List.length_drop, ints_len]; done) | (rw [List.length_drop, ints_len]; omega) | (simp [ints_len]; omega)) (by have := (hrd.below q6 (by omega)).cut k (by rw [ints_len]; omega); first | (rw [if_neg hck'] at this; simpa [add_none] using this) | (rw [if_pos rfl] at this; simpa using this)) (fun u hu => ints_one (List.mem_of_mem_drop hu)) (by rw [E7.out]; omega) q6.size ?_; intro A7 c7 w7 ho7 hb7 hg7; rw [E7.out] at ho7 ⊢; have q7 : Below w.heap.size w w7 := q6.trans hb7))
          all_goals
            go_wp2
            go_ret
            refine ⟨A7, c7, ?_, ?_, (Lo.own ho7).le hlo, q7⟩
            · rw [HNo.out]
              have e : (l.take k ++ [x] ++ l.drop k).length = l.length + 1 := by simp; omega
              rw [e]; rfl
            · rw [HNo.out]
              have e2 : ints (l.take k ++ [x] ++ l.drop k) = [] ++ (ints l).take k ++ [Value.int .i64 x] ++ (ints l).drop k := by simp [ints, List.map_take, List.map_drop]
              unfold RdI
              rw [e2]
              exact ho7.rd
    · obtain rfl : k = l.length := by omega
      have hput := putI_at l x l.length (Nat.le_refl _) HS.out (fun hh => absurd hh (by omega))
      rw [if_neg fun hh => hlt hh.1] at hput
      have HNo := Lib.hid hput; clear hput
      have hrd : Rd w B A c (ints l) := h
      clear h
      generalize hkk : l.length = k at *
      have hk1 : k ≤ l.length := by omega
      have hk2 : l.length ≤ k := by omega
      clear hkk hlt
      by_cases hck' : c = k
      · subst c
        obtain ⟨c, hcc1, hcc2⟩ : ∃ c : Nat, k ≤ c ∧ l.length ≤ c := ⟨k, by omega, by omega⟩
        go_wp2
        have hlc := hrd.1
        rw [ints_len] at hlc
        have hkI : (0 : Int) ≤ (k : Int) := by omega
        have hkl : (k : Int) ≤ (l.length : Int) := by omega
        have hkc : (k : Int) ≤ (c : Int) := by omega
        have hlcI : (l.length : Int) ≤ (c : Int) := by omega
        have E5 : Hid (([] : List Value).length + ((ints l).take k).length = k) := by show _ = _; rw [List.length_nil, List.length_take, ints_len]; omega
        have E6 : Hid (([] ++ (ints l).take k : List Value).length + [Value.int .i64 x].length = k + 1) := by show _ = _; rw [List.nil_append, List.length_take, List.length_singleton, ints_len]; omega
        have E7 : Hid (([] ++ (ints l).take k ++ [Value.int .i64 x] : List Value).length + ((ints l).drop k).length = l.length + 1) := by show _ = _; rw [List.nil_append, List.length_append, List.length_take, List.length_singleton, List.length_drop, ints_len]; omega
        go_region_held3 (fun w' => True) (trivial)
          (first
            | (refine step_append_rd (by rfl) (.tmp 33) (.tmp 36) 22 3 (.int .i64 0) 8 (by rfl) Try.underlying22 infoInt rfl (by omega) w.heap.size (.slice (some ⟨_, 0, none⟩) 0 0) [] (by rfl) (by first | exact Own.of_blk (Blk.new_at _ _ _ (by simp)) (by first | (simp; done) | (simp; omega)) | exact Own.of_blk ((Blk.new_at _ _ _ (by simp)).alloc _) (by first | (simp; done) | (simp; omega))) B _ _ _ ((ints l).take k) (by rfl) (by first | (rw [List.length_take, ints_len]; omega) | (simp [ints_len]; done) | (simp [ints_len]; omega)) (by exact ((hrd.below (B' := w.heap.size) (by (repeat (first | exact Below.refl _ _ | refine Below.drew ?_ | refine Below.alloc ?_ (by first | (simp; done) | (simp; omega)) _))) (by omega)).take k)) (fun u hu => ints_one (List.mem_of_mem_take hu)) (by rw [E5.out]; omega) (by first | (simp; done) | (simp; omega)) ?_; intro A5 c5 w5 ho5 hb5 hg5; rw [E5.out] at ho5 ⊢; have q5 : Below w.heap.size w w5 := Below.trans (by (repeat (first | exact Below.refl _ _ | refine Below.drew ?_ | refine Below.alloc ?_ (by first | (simp; done) | (simp; omega)) _))) hb5)
            | (refine step_append_rd (by rfl) (.tmp 37) (.tmp 39) 22 3 (.int .i64 0) 8 (by rfl) Try.underlying22 infoInt rfl (by omega) w.heap.size (.slice A5 _ c5) _ (by rfl) (by first | exact ho5 | exact ho5.below (by (repeat (first | exact Below.refl _ _ | refine Below.drew ?_ | refine Below.alloc ?_ (by first | (simp; done) | (simp; omega)) _)))) _ _ _ _ [.int .i64 x] (by rfl) rfl (by first | exact Rd.of_blk (Blk.new_at _ _ _ (by simp)) (Nat.lt_succ_self _) | exact Rd.of_blk (Blk.grownD hg5 (Blk.new_at _ _ _ (by simp)) (by simp [Value.ownBlock])) (Nat.lt_succ_self _) | exact Rd.of_blk (Blk.grownD hg5 ((Blk.new_at _ _ _ (by simp)).alloc _) (by simp [Value.ownBlock])) (Nat.lt_succ_self _)) (fun u hu => by simp at hu; subst hu; rfl) (by rw [E6.out]; omega) (by have := q5.size; first | omega | (simp; omega)) ?_; intro A6 c6 w6 ho6 hb6 hg6; rw [E6.out] at ho6 ⊢; have q6 : Below w.heap.size w w6 := q5.trans (by first | exact hb6 | exact Below.trans (Below.mono (by (repeat (first | exact Below.refl _ _ | refine Below.drew ?_ | refine Below.alloc ?_ (by first | (simp; done) | (simp; omega)) _))) q5.size) hb6))
            | (refine step_append_rd (by rfl) (.tmp 40) (.tmp 43) 22 3 (.int .i64 0) 8 (by rfl) Try.underlying22 infoInt rfl (by omega) w.heap.size (.slice A6 _ c6) _ (by rfl) ho6 B _ _ _ ((ints l).drop k) (by rfl) (by first | (rw [List.length_drop, ints_len]; done) | (rw [List.length_drop, ints_len]; omega) | (simp [ints_len]; omega)) (by have := (hrd.below q6 (by omega)).cut k (by rw [ints_len]; omega); first | (rw [if_neg hck'] at this; simpa [add_none] using this) | (rw [if_pos rfl] at this; simpa using this)) (fun u hu => ints_one (List.mem_of_mem_drop hu)) (by rw [E7.out]; omega) q6.size ?_; intro A7 c7 w7 ho7 hb7 hg7; rw [E7.out] at ho7 ⊢; have q7 : Below w.heap.size w w7 := q6.trans hb7))
        all_goals
          go_wp2
          go_ret
          refine ⟨A7, c7, ?_, ?_, (Lo.own ho7).le hlo, q7⟩
          · rw [HNo.out]
            have e : (l.take k ++ [x] ++ l.drop k).length = l.length + 1 := by simp; omega
            rw [e]; rfl
          · rw [HNo.out]
            have e2 : ints (l.take k ++ [x] ++ l.drop k) = [] ++ (ints l).take k ++ [Value.int .i64 x] ++ (ints l).drop k := by simp [ints, List.map_take, List.map_drop]
            unfold RdI
            rw [e2]
            exact ho7.rd
      · go_wp2
        have hlc := hrd.1
        rw [ints_len] at hlc
        have hkI : (0 : Int) ≤ (k : Int) := by omega
        have hkl : (k : Int) ≤ (l.length : Int) := by omega
        have hkc : (k : Int) ≤ (c : Int) := by omega
        have hlcI : (l.length : Int) ≤ (c : Int) := by omega
        have E5 : Hid (([] : List Value).length + ((ints l).take k).length = k) := by show _ = _; rw [List.length_nil, List.length_take, ints_len]; omega
        have E6 : Hid (([] ++ (ints l).take k : List Value).length + [Value.int .i64 x].length = k + 1) := by show _ = _; rw [List.nil_append, List.length_take, List.length_singleton, ints_len]; omega
        have E7 : Hid (([] ++ (ints l).take k ++ [Value.int .i64 x] : List Value).length + ((ints l).drop k).length = l.length + 1) := by show _ = _; rw [List.nil_append, List.length_append, List.length_take, List.length_singleton, List.length_drop, ints_len]; omega
        go_region_held3 (fun w' => True) (trivial)
          (first
            | (refine step_append_rd (by rfl) (.tmp 33) (.tmp 36) 22 3 (.int .i64 0) 8 (by rfl) Try.underlying22 infoInt rfl (by omega) w.heap.size (.slice (some ⟨_, 0, none⟩) 0 0) [] (by rfl) (by first | exact Own.of_blk (Blk.new_at _ _ _ (by simp)) (by first | (simp; done) | (simp; omega)) | exact Own.of_blk ((Blk.new_at _ _ _ (by simp)).alloc _) (by first | (simp; done) | (simp; omega))) B _ _ _ ((ints l).take k) (by rfl) (by first | (rw [List.length_take, ints_len]; omega) | (simp [ints_len]; done) | (simp [ints_len]; omega)) (by exact ((hrd.below (B' := w.heap.size) (by (repeat (first | exact Below.refl _ _ | refine Below.drew ?_ | refine Below.alloc ?_ (by first | (simp; done) | (simp; omega)) _))) (by omega)).take k)) (fun u hu => ints_one (List.mem_of_mem_take hu)) (by rw [E5.out]; omega) (by first | (simp; done) | (simp; omega)) ?_; intro A5 c5 w5 ho5 hb5 hg5; rw [E5.out] at ho5 ⊢; have q5 : Below w.heap.size w w5 := Below.trans (by (repeat (first | exact Below.refl _ _ | refine Below.drew ?_ | refine Below.alloc ?_ (by first | (simp; done) | (simp; omega)) _))) hb5)
            | (refine step_append_rd (by rfl) (.tmp 37) (.tmp 39) 22 3 (.int .i64 0) 8 (by rfl) Try.underlying22 infoInt rfl (by omega) w.heap.size (.slice A5 _ c5) _ (by rfl) (by first | exact ho5 | exact ho5.below (by (repeat (first | exact Below.refl _ _ | refine Below.drew ?_ | refine Below.alloc ?_ (by first | (simp; done) | (simp; omega)) _)))) _ _ _ _ [.int .i64 x] (by rfl) rfl (by first | exact Rd.of_blk (Blk.new_at _ _ _ (by simp)) (Nat.lt_succ_self _) | exact Rd.of_blk (Blk.grownD hg5 (Blk.new_at _ _ _ (by simp)) (by simp [Value.ownBlock])) (Nat.lt_succ_self _) | exact Rd.of_blk (Blk.grownD hg5 ((Blk.new_at _ _ _ (by simp)).alloc _) (by simp [Value.ownBlock])) (Nat.lt_succ_self _)) (fun u hu => by simp at hu; subst hu; rfl) (by rw [E6.out]; omega) (by have := q5.size; first | omega | (simp; omega)) ?_; intro A6 c6 w6 ho6 hb6 hg6; rw [E6.out] at ho6 ⊢; have q6 : Below w.heap.size w w6 := q5.trans (by first | exact hb6 | exact Below.trans (Below.mono (by (repeat (first | exact Below.refl _ _ | refine Below.drew ?_ | refine Below.alloc ?_ (by first | (simp; done) | (simp; omega)) _))) q5.size) hb6))
            | (refine step_append_rd (by rfl) (.tmp 40) (.tmp 43) 22 3 (.int .i64 0) 8 (by rfl) Try.underlying22 infoInt rfl (by omega) w.heap.size (.slice A6 _ c6) _ (by rfl) ho6 B _ _ _ ((ints l).drop k) (by rfl) (by first | (rw [List.length_drop, ints_len]; done) | (rw [List.length_drop, ints_len]; omega) | (simp [ints_len]; omega)) (by have := (hrd.below q6 (by omega)).cut k (by rw [ints_len]; omega); first | (rw [if_neg hck'] at this; simpa [add_none] using this) | (rw [if_pos rfl] at this; simpa using this)) (fun u hu => ints_one (List.mem_of_mem_drop hu)) (by rw [E7.out]; omega) q6.size ?_; intro A7 c7 w7 ho7 hb7 hg7; rw [E7.out] at ho7 ⊢; have q7 : Below w.heap.size w w7 := q6.trans hb7))
        all_goals
          go_wp2
          go_ret
          refine ⟨A7, c7, ?_, ?_, (Lo.own ho7).le hlo, q7⟩
          · rw [HNo.out]
            have e : (l.take k ++ [x] ++ l.drop k).length = l.length + 1 := by simp; omega
            rw [e]; rfl
          · rw [HNo.out]
            have e2 : ints (l.take k ++ [x] ++ l.drop k) = [] ++ (ints l).take k ++ [Value.int .i64 x] ++ (ints l).drop k := by simp [ints, List.map_take, List.map_drop]
            unfold RdI
            rw [e2]
            exact ho7.rd

theorem los_succ_t {cs : List Int} {L : List (List Int)} {n : Nat} (h1 : gi (quo cs L) n = (n : Nat)) (h2 : mz cs (gl L n) = 0) : los cs L (n + 1) = los cs L n ++ [(n : Int)] := by rw [los_succ, if_pos ⟨h1, h2⟩]
theorem los_succ_f {cs : List Int} {L : List (List Int)} {n : Nat} (h : ¬ (gi (quo cs L) n = (n : Nat) ∧ mz cs (gl L n) = 0)) : los cs L (n + 1) = los cs L n := by rw [los_succ, if_neg h, List.append_nil]

set_option maxRecDepth 100000 in
set_option maxHeartbeats 3200000 in
theorem losersI_any (cs : List Int) (hg : goodCode cs) (Ac : Option Addr) (cc B0 b : Nat) (hk0 : B0 ≤ b) (size many : Nat) (hs : size ≤ 6) (hm : many ≤ 6) (hsm : size * many ≤ 6) (w : World) (K : List (List Int))
    (hM : MapM w b cs K) (hcode : RdI w B0 Ac cc cs) :
    Calls Try.prog 39 #[.agg #[.slice Ac cs.length cc, .map (some b)], .agg #[.int .i64 size, .int .i64 many]] w fun e w' =>
      (∃ A3 c3, e = .returned (.slice A3 (los cs (allTo size (many + 1)) (allTo size (many + 1)).length).length c3) ∧ Own w' w.heap.size 3 (.slice A3 (los cs (allTo size (many + 1)) (allTo size (many + 1)).length).length c3) (ints (los cs (allTo size (many + 1)) (allTo size (many + 1)).length))) ∧ (∃ K', MapM w' b cs K') ∧ w.grownBy w' (some b) := by
  have hbl := hM.lt
  have HCODE := Lib.hid hcode
  have hLle := allTo_le size hs (many + 1) (by omega)
  have HV := Lib.hid fun (p : List Int) (w : World) (A : Option Addr) (c : Nat) (K : List (List Int)) (hp : Hp 20 p) (hM : MapM w b cs K) (hcode : RdI w B0 Ac cc cs) (hr : RdI w w.heap.size A c p) (hne : ∀ a, A = some a → a.block ≠ b) => valI cs hg Ac cc B0 b hk0 p w A c K hp hM hcode hr hne
  have HQ := Lib.hid fun (w : World) (K : List (List Int)) (hM : MapM w b cs K) (hcode : RdI w B0 Ac cc cs) => quotientI_any cs hg Ac cc B0 b hk0 size many hs hm hsm w K hM hcode
  have HPOS := Lib.hid fun W => positions_any size many hs hm W
  have HHP := Lib.hid fun (x : List Int) (h : x ∈ allTo size (many + 1)) => allTo_hp h hsm
  obtain ⟨L, hL⟩ : ∃ L, L = allTo size (many + 1) := ⟨_, rfl⟩
  rw [← hL] at HQ HHP hLle HPOS ⊢
  clear hL hg
  obtain ⟨W1, hW1⟩ : ∃ W1, W1 = (w.alloc (.cells #[.slice Ac cs.length cc, .map (some b)] 52)).alloc (.cells #[.int .i64 size, .int .i64 many] 28) := ⟨_, rfl⟩
  obtain ⟨W, hW⟩ : ∃ W, W = W1.alloc (.cells #[] 3) := ⟨_, rfl⟩
  have hz0 : (w.alloc (.cells #[.slice Ac cs.length cc, .map (some b)] 52)).heap.size = w.heap.size + 1 := by simp
  have hz1 : W1.heap.size = w.heap.size + 2 := by rw [hW1]; simp
  have hbW1 : Below w.heap.size w W1 := by rw [hW1]; exact bel2 _ _ _
  have hbW2 : Below W1.heap.size W1 W := by rw [hW]; exact bel1 _ _
  have hbW := gtr hbW1 hbW2
  have hBX : Blk W w.heap.size 52 #[.slice Ac cs.length cc, .map (some b)] := Blk.below (by rw [hW1]; exact (Blk.new _ _ _).alloc _) hbW2 (by omega)
  have hBY : Blk W (w.heap.size + 1) 28 #[.int .i64 size, .int .i64 many] := Blk.below (by rw [hW1, ← hz0]; exact Blk.new _ _ _) hbW2 (by omega)
  have hOO : Own W (w.heap.size + 2) 3 (.slice (some ⟨w.heap.size + 2, 0, none⟩) 0 0) (ints (los cs L 0)) := by
    have := Own.empty W1 3 3 (w.heap.size + 2) (by omega)
    rw [hz1] at this
    rw [hW]; exact this
  have hzW : W.heap.size = w.heap.size + 3 := by rw [hW]; simp [hz1]
  have hMW := hM.kept (belowG hbW none) (by simp)
  have hgr0 := belowG hbW (some b)
  have hcW := hcode.below hbW (by omega)
  clear hM hcode hz0 hz1 hbW1 hbW2 hbW
  go_enter Try.func39, Try.ntmps39
  go_wp2_with fail
  rw [← hW1, ← hW]
  clear hW hW1
  ((with_reducible refine (HPOS.out W).mono ?_); rintro e w2 ⟨A2, c2, rfl, hF2, hb2⟩)
  have hz2 := hb2.size
  have hR2 := FrR.rd hF2
  have hM2 := hMW.kept (belowG hb2 none) (by simp)
  have hOO2 := hOO.below hb2
  have hBX2 := hBX.below hb2 (by omega)
  have hBY2 := hBY.below hb2 (by omega)
  have hgr2 := hgr0.trans (belowG hb2 (some b))
  have q0 : w2.cell? ⟨w.heap.size, 0, none⟩ = some (.slice Ac cs.length cc) := hBX2.cell 0
  have q1 : w2.cell? ⟨w.heap.size, 1, none⟩ = some (.map (some b)) := hBX2.cell 1
  have p0 : w2.cell? ⟨w.heap.size + 1, 0, none⟩ = some (.int .i64 (size : Int)) := hBY2.cell 0
  have p1 : w2.cell? ⟨w.heap.size + 1, 1, none⟩ = some (.int .i64 (many : Int)) := hBY2.cell 1
  have HQ2 := Lib.hid (HQ.out w2 K hM2 (hcW.below hb2 (by omega)))
  obtain ⟨lo2, hlo2⟩ : ∃ lo2, lo2 = W.heap.size := ⟨_, rfl⟩
  obtain ⟨B2, hB2⟩ : ∃ B2, B2 = w2.heap.size := ⟨_, rfl⟩
  rw [← hlo2, ← hB2] at hR2
  have hl0 : lo2 = w.heap.size + 3 := by omega
  have hl1 : lo2 ≤ B2 := by omega
  clear hF2 hb2 hOO hBX hBY hMW hgr0 hM2 hcW hlo2 hzW hz2
  have HR2 := Lib.hid hR2; have HOO2 := Lib.hid hOO2; have HBX2 := Lib.hid hBX2; have HBY2 := Lib.hid hBY2; have HGR2 := Lib.hid hgr2
  clear hR2 hOO2 hBX2 hBY2 hgr2
  go_wp2_with fail
  ((with_reducible refine (HQ2.out).mono ?_); rintro e w4 ⟨⟨A4, c4, rfl, ho4⟩, ⟨K4, hM4⟩, hg4⟩)
  have hz4 := hg4.size
  have hlo4 : Lo B2 A4 := fun a ha => by subst ha; rw [hB2]; exact (ho4.lt a.block rfl).1
  obtain ⟨BQ, hBQ⟩ : ∃ BQ, BQ = w4.heap.size := ⟨_, rfl⟩
  have hq4 : RdI w4 BQ A4 c4 (quo cs L) := by rw [hBQ]; exact Own.rd ho4
  have hR4 := HR2.out.grown hg4 (by omega) (fun k hk => by injection hk with hk; omega)
  have hOO4 := HOO2.out.grownLb hg4 (by omega)
  have hBX4 := HBX2.out.grown hg4 (by simp; omega)
  have hgr4 := HGR2.out.trans hg4
  have hl2 : B2 ≤ BQ := by omega
  have hBw : BQ ≤ w4.heap.size := by omega
  obtain ⟨gO, hgO⟩ : ∃ gO, gO = w.heap.size + 2 := ⟨_, rfl⟩
  have hbO : ∀ k, (Value.slice (some ⟨gO, 0, none⟩) 0 0).ownBlock = some k → k < lo2 ∨ BQ ≤ k := fun k hk => by
    have hk : gO = k := by injection hk
    left; omega
  obtain ⟨bS, hbSe⟩ : ∃ bS, bS = w.heap.size + 2 := ⟨_, rfl⟩
  have hOO5 : Own w4 bS 3 (.slice (some ⟨gO, 0, none⟩) 0 0) (ints (los cs L 0)) := by rw [hgO, hbSe]; exact hOO4
  rw [← hgO]
  have HQL := Lib.hid (quo_len cs L)
  have hqm := hq4.max
  have hql := hq4.len
  rw [quo_len] at hql
  clear ho4 hg4 HR2 HOO2 HBX2 HBY2 HGR2 HQ2 hOO4 hgO hB2 hBQ q0 q1 p0 p1 hz4
  go_wp2
  go_loopw [5, 16] (fun v5 s wi => ∃ (j : Nat) (AO : Option Addr) (cO : Nat) (K' : List (List Int)), s = .int .i64 j ∧ j ≤ L.length ∧ v5 = .slice AO (los cs L j).length cO ∧ Own wi bS 3 (.slice AO (los cs L j).length cO) (ints (los cs L j)) ∧ (∀ k, (Value.slice AO (los cs L j).length cO).ownBlock = some k → k < lo2 ∨ BQ ≤ k) ∧ RdR wi lo2 B2 A2 c2 L ∧ RdI wi BQ A4 c4 (quo cs L) ∧ MapM wi b cs K' ∧ Blk wi w.heap.size 52 #[.slice Ac cs.length cc, .map (some b)] ∧ w.grownBy wi (some b) ∧ BQ ≤ wi.heap.size) (fun _ s _ => L.length - (intOf s).toNat)
  case atStart => exact ⟨0, some ⟨gO, 0, none⟩, 0, K4, rfl, by omega, rfl, hOO5, hbO, hR4, hq4, hM4, hBX4, hgr4, hBw⟩
  case round =>
    clear hOO5 hbO hR4 hq4 hM4 hBX4 hgr4 hBw
    obtain ⟨j, AO, cO, K', rfl, hj, rfl, hOO, hbO, hRR, hq, hM, hBX, hgr, hBw⟩ := hrel
    by_cases hlt : j < L.length
    · have hLw := hgr.size
      have hln := los_len cs L j
      obtain ⟨bL, oL, rfl, hloL, hbL, hcL⟩ := hRR.atLo (j := j) hlt
      obtain ⟨Aj, cj, hcj, hrj, hloj⟩ := hcL j hlt
      have hbj : ∀ a, Aj = some a → a.block ≠ b := fun a ha => by have := hloj a ha; omega
      have hpj := HHP.out (gl L j) (by rw [gl_lt hlt]; exact List.getElem_mem hlt)
      have HCJ := Lib.hid (HV.out (gl L j) wr.drew Aj cj K' hpj (hM.kept (belowG gdrew none) (by simp)) ((Rd.grown (lo := 0) HCODE.out Lo.zero hgr (by omega) fun k hk => by injection hk with hk; omega : RdI wr B0 Ac cc cs).below (gdrew (a := wr)) (by omega)) ((hrj.below (gdrew (a := wr)) (by omega)).more (by show B2 ≤ wr.heap.size; omega)) hbj)
      obtain ⟨bq, oq, hA4, hbq, hcq⟩ := hq.at (j := j) (by rw [HQL.out]; exact hlt)
      have hcqj := hcq j (by rw [HQL.out]; exact hlt)
      have q0 : wr.cell? ⟨w.heap.size, 0, none⟩ = some (.slice Ac cs.length cc) := hBX.cell 0
      have q1 : wr.cell? ⟨w.heap.size, 1, none⟩ = some (.map (some b)) := hBX.cell 1
      have hneO : ∀ k, (Value.slice AO (los cs L j).length cO).ownBlock = some k → bS ≤ k ∧ k < wr.heap.size := fun k hk => hOO.lt k hk
      have hGl := hBX.lt
      have HOO := Lib.hid hOO; have HBO := Lib.hid hbO; have HNO := Lib.hid hneO; have HRR := Lib.hid hRR; have HBX := Lib.hid hBX; have HGR := Lib.hid hgr; have HQQ := Lib.hid hq; have HMM := Lib.hid hM
      have HCELL := Lib.hid hcj
      have HST := Lib.hid fun h1 h2 => los_succ_t (cs := cs) (L := L) (n := j) h1 h2
      have HSF := Lib.hid fun h => los_succ_f (cs := cs) (L := L) (n := j) h
      obtain ⟨u, hu⟩ : ∃ u, u = gi (quo cs L) j := ⟨_, rfl⟩
      rw [← hu] at hcqj HST HSF
      obtain ⟨z, hzz⟩ : ∃ z, z = mz cs (gl L j) := ⟨_, rfl⟩
      rw [← hzz] at HCJ HST HSF
      obtain ⟨p, hp⟩ : ∃ p, p = gl L j := ⟨_, rfl⟩
      rw [← hp] at HCJ HCELL hcj
      obtain ⟨xs, hxs⟩ : ∃ xs, xs = los cs L j := ⟨_, rfl⟩
      rw [← hxs] at HOO HBO HNO HST HSF hln ⊢
      have hxsz : (ints xs).length = xs.length := ints_len xs
      have HXZ := Lib.hid hxsz
      subst hA4
      clear hOO hbO hRR hq hM hBX hgr hcL hrj hloj hbj hpj hcq hneO hu hzz hp hxs hxsz
      by_cases hij : u = (j : Int)
      · have ht1 : ((j : Int) == u) = true := by rw [hij]; simp
        have HS4 : Hid (∀ W', Below wr.heap.size wr W' → W'.cell? ⟨bL, oL + j, none⟩ = some (.slice Aj p.length cj)) := Lib.hid fun W' hW => (hW.cell (p := ⟨bL, oL + j, none⟩) (by show bL < _; omega)).trans HCELL.out
        by_cases hz0 : z = 0
        · have ht2 : ((z : Int) == 0) = true := by rw [hz0]; rfl
          have HN := Lib.hid (HST.out hij hz0)
          clear HST HSF hz0
          go_wp2
          go_region_held3 (fun w' => w'.cell? ⟨w.heap.size, 0, none⟩ = some (.slice Ac cs.length cc) ∧ w'.cell? ⟨w.heap.size, 1, none⟩ = some (.map (some b)) ∧ w'.cell? ⟨bL, oL + j, none⟩ = some (.slice Aj p.length cj)) (go_keep)
            (first
              | (go_at_call 54; refine (HCJ.out).mono ?_; rintro e w5 ⟨rfl, ⟨K5, hM5⟩, hg5⟩; have hB5 := (HBX.out.below (gdrew (a := wr)) hGl).grown hg5 (by simp; omega); have s0 : w5.cell? ⟨w.heap.size, 0, none⟩ = some (.slice Ac cs.length cc) := hB5.cell 0; have s1 : w5.cell? ⟨w.heap.size, 1, none⟩ = some (.map (some b)) := hB5.cell 1; have s2 : w5.cell? ⟨bL, oL + j, none⟩ = some (.slice Aj p.length cj) := (World.cell?_of_block (a := ⟨bL, oL + j, none⟩) (hg5.block bL (by show bL < wr.heap.size; omega) (by simp; omega))).trans HCELL.out))
          all_goals
            have hz5 : wr.heap.size ≤ w5.heap.size := hg5.size
            have hbb : b < bS := by omega
            have HO5 := Lib.hid ((HOO.out.below (gdrew (a := wr))).grownLb hg5 hbb)
            have HRR5 := Lib.hid ((HRR.out.below (gdrew (a := wr)) (by omega)).grown hg5 (by show B2 ≤ wr.heap.size; omega) (fun k hk => by injection hk with hk; omega))
            have HQ5 : Hid (RdI w5 BQ (some ⟨bq, oq, none⟩) c4 (quo cs L)) := Lib.hid (Rd.grown (lo := B2) (HQQ.out.below (gdrew (a := wr)) hBw) hlo4 hg5 hBw (fun k hk => by injection hk with hk; omega))
            have HB5 := Lib.hid hB5; have HM5 := Lib.hid hM5
            have HG5 := Lib.hid ((HGR.out.trans (belowG (gdrew (a := wr)) (some b))).trans hg5)
            clear hB5 hM5 hg5 s0 s1 s2 q0 q1 hcj
            go_wp2_with (at_builtin; refine wpList_append_at rfl _ _ 22 3 (.int .i64 0) 8 rfl Try.underlying22 infoInt rfl (by omega) bS (.slice AO xs.length cO) (ints xs) rfl (HO5.out.below (bel1 _ _)) (w5.heap.size + 1) (some ⟨w5.heap.size, 0, none⟩) 1 1 [.int .i64 (j : Int)] rfl rfl (Rd.of_blk (Blk.new _ _ _) (Nat.lt_succ_self _)) (fun u hu => by simp at hu; subst hu; rfl) (by rw [HXZ.out]; simp; omega) (by simp; omega) ?_; intro A8 c8 w8 ho8 hb8 hg8 hp8; rw [HXZ.out, List.length_singleton] at ho8 hp8 ⊢)
            have hz8 := hg8.size
            have hza : (w5.alloc (.cells #[.int .i64 (j : Int)] 3)).heap.size = w5.heap.size + 1 := by simp
            have hzz8 : w5.heap.size ≤ w8.heap.size := by omega
            have hA5 := bel1 w5 (.cells #[.int .i64 (j : Int)] 3)
            have hnl : (los cs L (j + 1)).length = xs.length + 1 := by rw [HN.out]; simp
            have e8 : ints xs ++ [.int .i64 (j : Int)] = ints (los cs L (j + 1)) := by rw [HN.out, ints_snoc]
            rw [e8, ← hnl] at ho8
            rw [← hnl] at hp8
            have HNL := Lib.hid hnl
            have HO8 := Lib.hid ho8; have HG8 := Lib.hid hg8
            have HBO8 : Hid (∀ k, (Value.slice A8 (los cs L (j + 1)).length c8).ownBlock = some k → k < lo2 ∨ BQ ≤ k) := Lib.hid fun k hk => by
              rcases hp8 with e | e
              · exact HBO.out k (e.symm.trans hk)
              · rw [e] at hk; injection hk with hk; right; omega
            have HRR8 := Lib.hid ((HRR5.out.below hA5 (by omega)).grown hg8 (by omega) (fun k hk => by have := HBO.out k hk; omega))
            have HQ8 : Hid (RdI w8 BQ (some ⟨bq, oq, none⟩) c4 (quo cs L)) := Lib.hid (Rd.grown (lo := B2) (HQ5.out.below hA5 (by omega)) hlo4 hg8 (by omega) (fun k hk => by have := HBO.out k hk; omega))
            have HM8 := Lib.hid ((HM5.out.kept (belowG hA5 none) (by simp)).kept hg8 (fun e => by have := HNO.out _ e.symm; omega))
            have HB8 := Lib.hid ((HB5.out.below hA5 (by omega)).grown hg8 (fun e => by have := HNO.out _ e.symm; omega))
            have HGR8 := Lib.hid (grown_new (HG5.out.trans (belowG hA5 (some b))) hg8 (fun k hk => by have := HNO.out k hk; omega))
            clear ho8 hb8 hg8 hp8 e8 hA5 hza hnl
            go_roundw
            case rel => exact ⟨j + 1, A8, c8, K5, by go_num, by omega, by rw [HNL.out], HO8.out, HBO8.out, HRR8.out, HQ8.out, HM8.out, HB8.out, HGR8.out, by omega⟩
            case measure => simp [intOf]; omega
        · have ht2 : ((z : Int) == 0) = false := by simp; omega
          have HN := Lib.hid (HSF.out (fun h => hz0 h.2))
          clear HST HSF hz0
          go_wp2
          go_region_held3 (fun w' => w'.cell? ⟨w.heap.size, 0, none⟩ = some (.slice Ac cs.length cc) ∧ w'.cell? ⟨w.heap.size, 1, none⟩ = some (.map (some b)) ∧ w'.cell? ⟨bL, oL + j, none⟩ = some (.slice Aj p.length cj)) (go_keep)
            (first
              | (go_at_call 54; refine (HCJ.out).mono ?_; rintro e w5 ⟨rfl, ⟨K5, hM5⟩, hg5⟩; have hB5 := (HBX.out.below (gdrew (a := wr)) hGl).grown hg5 (by simp; omega); have s0 : w5.cell? ⟨w.heap.size, 0, none⟩ = some (.slice Ac cs.length cc) := hB5.cell 0; have s1 : w5.cell? ⟨w.heap.size, 1, none⟩ = some (.map (some b)) := hB5.cell 1; have s2 : w5.cell? ⟨bL, oL + j, none⟩ = some (.slice Aj p.length cj) := (World.cell?_of_block (a := ⟨bL, oL + j, none⟩) (hg5.block bL (by show bL < wr.heap.size; omega) (by simp; omega))).trans HCELL.out))
          all_goals
            have hz5 : wr.heap.size ≤ w5.heap.size := hg5.size
            have hbb : b < bS := by omega
            have HO5 := Lib.hid ((HOO.out.below (gdrew (a := wr))).grownLb hg5 hbb)
            have HRR5 := Lib.hid ((HRR.out.below (gdrew (a := wr)) (by omega)).grown hg5 (by show B2 ≤ wr.heap.size; omega) (fun k hk => by injection hk with hk; omega))
            have HQ5 : Hid (RdI w5 BQ (some ⟨bq, oq, none⟩) c4 (quo cs L)) := Lib.hid (Rd.grown (lo := B2) (HQQ.out.below (gdrew (a := wr)) hBw) hlo4 hg5 hBw (fun k hk => by injection hk with hk; omega))
            have HB5 := Lib.hid hB5; have HM5 := Lib.hid hM5
            have HG5 := Lib.hid ((HGR.out.trans (belowG (gdrew (a := wr)) (some b))).trans hg5)
            clear hB5 hM5 hg5 s0 s1 s2 q0 q1 hcj
            go_wp2
            go_roundw
            case rel => exact ⟨j + 1, AO, cO, K5, by go_num, by omega, by rw [HN.out], by rw [HN.out]; exact HO5.out, by rw [HN.out]; exact HBO.out, HRR5.out, HQ5.out, HM5.out, HB5.out, HG5.out, by omega⟩
            case measure => simp [intOf]; omega
      · have ht1 : ((j : Int) == u) = false := by simp; omega
        have HN := Lib.hid (HSF.out (fun h => hij h.1))
        clear HST HSF hij
        go_wp2
        refine wp_region_noPanic ?_
        refine wp_region_held_drew (S := fun _ => True) (by kernel_rfl) trivial (fun hHeld => ?_)
        refine wpAnyH_take (i := 0) (oi := ⟨some 21, _, _, _, _, _⟩) (v := ?vta0) rfl (by kernel_rfl) (by kernel_rfl) (by kernel_rfl) (fun _ _ _ h => h) (Or.inl ⟨by kernel_rfl, ?hya0⟩) (by assumption) ?_
        case hya0 => (intro wh hSw; (try dsimp only at hSw); go_simp; try with_reducible rfl)
        simp only [Act.put, List.setIfInBounds_toArray, List.set_cons_zero, List.set_cons_succ]
        refine wpAnyH_take (i := 1) (oi := ⟨some 22, _, _, _, _, _⟩) (v := ?vta1) rfl (by kernel_rfl) (by kernel_rfl) (by kernel_rfl) (fun _ _ _ h => h) (Or.inl ⟨by kernel_rfl, ?hya1⟩) (by assumption) ?_
        case hya1 => (intro wh hSw; (try dsimp only at hSw); go_simp; try with_reducible rfl)
        simp only [Act.put, List.setIfInBounds_toArray, List.set_cons_zero, List.set_cons_succ]
        refine wpAnyH_take (i := 2) (oi := ⟨some 23, _, _, _, _, _⟩) (v := ?vta2) rfl (by kernel_rfl) (by kernel_rfl) (by kernel_rfl) (fun _ _ _ h => h) (Or.inl ⟨by kernel_rfl, ?hya2⟩) (by assumption) ?_
        case hya2 => (intro wh hSw; (try dsimp only at hSw); go_simp; try with_reducible rfl)
        simp only [Act.put, List.setIfInBounds_toArray, List.set_cons_zero, List.set_cons_succ]
        refine wpAnyH_take (i := 3) (oi := ⟨some 24, _, _, _, _, _⟩) (v := ?vta3) rfl (by kernel_rfl) (by kernel_rfl) (by kernel_rfl) (fun _ _ _ h => h) (Or.inl ⟨by kernel_rfl, ?hya3⟩) (by assumption) ?_
        case hya3 => (intro wh hSw; (try dsimp only at hSw); go_simp; try with_reducible rfl)
        simp only [Act.put, List.setIfInBounds_toArray, List.set_cons_zero, List.set_cons_succ]
        refine wpAnyH_take (i := 4) (oi := ⟨some 25, _, _, _, _, _⟩) (v := undef) rfl (by kernel_rfl) (by kernel_rfl) (by kernel_rfl) (fun _ _ _ h => h) (Or.inr ⟨by kernel_rfl, rfl⟩) (by assumption) ?_
        simp only [Act.put, List.setIfInBounds_toArray, List.set_cons_zero, List.set_cons_succ]
        refine wpAnyH_take (i := 5) (oi := ⟨some 26, _, _, _, _, _⟩) (v := undef) rfl (by kernel_rfl) (by kernel_rfl) (by kernel_rfl) (fun _ _ _ h => h) (Or.inr ⟨by kernel_rfl, rfl⟩) (by assumption) ?_
        simp only [Act.put, List.setIfInBounds_toArray, List.set_cons_zero, List.set_cons_succ]
        refine wpAnyH_take (i := 6) (oi := ⟨some 27, _, _, _, _, _⟩) (v := undef) rfl (by kernel_rfl) (by kernel_rfl) (by kernel_rfl) (fun _ _ _ h => h) (Or.inr ⟨by kernel_rfl, rfl⟩) (by assumption) ?_
        simp only [Act.put, List.setIfInBounds_toArray, List.set_cons_zero, List.set_cons_succ]
        refine wpAnyH_take (i := 7) (oi := ⟨some 28, _, _, _, _, _⟩) (v := undef) rfl (by kernel_rfl) (by kernel_rfl) (by kernel_rfl) (fun _ _ _ h => h) (Or.inr ⟨by kernel_rfl, rfl⟩) (by assumption) ?_
        simp only [Act.put, List.setIfInBounds_toArray, List.set_cons_zero, List.set_cons_succ]
        refine wpAnyH_take (i := 8) (oi := ⟨some 29, _, _, _, _, _⟩) (v := undef) rfl (by kernel_rfl) (by kernel_rfl) (by kernel_rfl) (fun _ _ _ h => h) (Or.inr ⟨by kernel_rfl, rfl⟩) (by assumption) ?_
        simp only [Act.put, List.setIfInBounds_toArray, List.set_cons_zero, List.set_cons_succ]
        refine wpAnyH_take (i := 9) (oi := ⟨some 30, _, _, _, _, _⟩) (v := undef) rfl (by kernel_rfl) (by kernel_rfl) (by kernel_rfl) (fun _ _ _ h => h) (Or.inr ⟨by kernel_rfl, rfl⟩) (by assumption) ?_
        simp only [Act.put, List.setIfInBounds_toArray, List.set_cons_zero, List.set_cons_succ]
        refine wpAnyH_take (i := 10) (oi := ⟨some 31, _, _, _, _, _⟩) (v := undef) rfl (by kernel_rfl) (by kernel_rfl) (by kernel_rfl) (fun _ _ _ h => h) (Or.inr ⟨by kernel_rfl, rfl⟩) (by assumption) ?_
        simp only [Act.put, List.setIfInBounds_toArray, List.set_cons_zero, List.set_cons_succ]
        refine wpAnyH_take (i := 11) (oi := ⟨some 32, _, _, _, _, _⟩) (v := ?vta11) rfl (by kernel_rfl) (by kernel_rfl) (by kernel_rfl) (fun _ _ _ h => h) (Or.inl ⟨by kernel_rfl, ?hya11⟩) (by assumption) ?_
        case hya11 => (intro wh hSw; (try dsimp only at hSw); go_simp; try with_reducible rfl)
        simp only [Act.put, List.setIfInBounds_toArray, List.set_cons_zero, List.set_cons_succ]
        refine wpAnyH_done (by kernel_rfl) ?_ _
        refine NoPanic.normal ?_
        have HO5 := Lib.hid (HOO.out.below (gdrew (a := wr)))
        have HRR5 := Lib.hid (HRR.out.below (gdrew (a := wr)) (by omega))
        have HQ5 := Lib.hid (HQQ.out.below (gdrew (a := wr)) hBw)
        have HB5 := Lib.hid (HBX.out.below (gdrew (a := wr)) hGl)
        have HM5 := Lib.hid (HMM.out.kept (belowG (gdrew (a := wr)) none) (by simp))
        have HG5 := Lib.hid (HGR.out.trans (belowG (gdrew (a := wr)) (some b)))
        clear q0 q1 hcj
        go_wp2
        go_roundw
        case rel => exact ⟨j + 1, AO, cO, K', by go_num, by omega, by rw [HN.out], by rw [HN.out]; exact HO5.out, by rw [HN.out]; exact HBO.out, HRR5.out, HQ5.out, HM5.out, HB5.out, HG5.out, by show BQ ≤ wr.heap.size; omega⟩
        case measure => simp [intOf]; omega
    · obtain rfl : j = L.length := by omega
      have HM := Lib.hid hM; have HGR := Lib.hid hgr; have HOO := Lib.hid (hOO.le (show w.heap.size ≤ bS by omega))
      clear hRR hBX hM hgr hOO hbO hq
      go_wp2
      go_ret
      exact ⟨⟨AO, cO, rfl, HOO.out⟩, ⟨K', HM.out⟩, HGR.out⟩
end Go.Proofs.Ytbledcogbkeneaa
