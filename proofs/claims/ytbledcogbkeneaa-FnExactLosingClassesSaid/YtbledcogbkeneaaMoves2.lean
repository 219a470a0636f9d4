/- l17Put by its contract. Conditions: none. -/
import Derived.Test.YtbledcogbkeneaaMoves
namespace Go.Proofs.Ytbledcogbkeneaa
open Go.RowKit
set_option linter.unusedVariables false

theorem infoRow : (Try.prog.info? 22).map (fun i => (i.zero, i.size, i.bytes)) = some (some (.slice none 0 0), 1, 24) := by kernel_rfl

def RetR (w : World) (lo : Nat) (xss : List (List Int)) (e : Ending) (w' : World) : Prop :=
  ∃ A c, e = .returned (.slice A xss.length c) ∧ RdR w' lo w'.heap.size A c xss ∧ Below w.heap.size w w'

theorem Blk.grownD {w w' : World} {g : Nat} {t : TypeId} {cs : Array Value} {row : Option Nat} (hb : w.drew.grownBy w' row) (h : Blk w g t cs) (hg : some g ≠ row) : Blk w' g t cs := Blk.grown (w := w.drew) h hb hg

set_option maxHeartbeats 1600000 in
theorem put_any (A A' : Option Addr) (c c' : Nat) (xss : List (List Int)) (x : List Int) (w : World) (lo B : Nat) (hB : B ≤ w.heap.size) (h : RdR w lo B A c xss) (h' : RdI w B A' c' x) (hlo : lo ≤ w.heap.size) (hlo' : Lo lo A') (hlen : xss.length ≤ 100000000) :
    Calls Try.prog 76 #[.slice A xss.length c, .slice A' x.length c'] w (RetR w lo (putL xss x)) := by
  have h1 := h.len
  have h2 := h.max
  have h3 := h'.len
  have h4 := h'.max
  go_enter Try.func76, Try.ntmps76
  go_wp2
  go_loopw [5] (fun i wr => ∃ k : Nat, i = .int .i64 k ∧ k ≤ xss.length ∧ (∀ j, j < k → aheadB (gl xss j) x = true) ∧ Below w.heap.size w wr) (fun i _ => xss.length - (intOf i).toNat)
  case atStart => exact ⟨0, rfl, by omega, fun j hj => absurd hj (by omega), Below.refl _ _⟩
  case round =>
    obtain ⟨k, rfl, hk, hs, hb⟩ := hrel
    have HS := Lib.hid hs; clear hs
    have hbz := hb.size
    by_cases hlt : k < xss.length
    · obtain ⟨b, o, rfl, hbB, hc⟩ := (h.below hb hB).at (j := k) hlt
      obtain ⟨Ak, ck, hck, hrk⟩ := hc k hlt
      clear hc
      cases hah : aheadB (gl xss k) x
      · have HNo : Hid (putL xss x = if gl xss k = x then xss else xss.take k ++ [x] ++ xss.drop k) := by
          have := putL_at xss x k hk (fun i hi hik => by rw [← gl_lt hi]; exact HS.out i hik) (fun h => by rw [← gl_lt h]; exact hah)
          rw [dif_pos hlt, ← gl_lt hlt] at this
          exact this
        by_cases heq : gl xss k = x
        · have h0 : cmpL (gl xss k) x = 0 := by rw [heq]; exact cmpL_self x
          rw [if_pos heq] at HNo
          clear heq
          go_wp2_with (first
            | (go_at_call 84; refine (ahead_any _ _ _ _ _ _ _ B (by omega) hrk (h'.below hb hB)).mono ?_; rintro e w1 ⟨rfl, hb1⟩; have hck1 := (hb1.cell (p := ⟨b, o + k, none⟩) (by show b < _; omega)).trans hck; have hb2 := hb.trans (hb1.mono hbz); have hrk2 := hrk.below hb1 (show B ≤ wr.heap.size by omega); have hbz1 := hb2.size)
            | (go_at_call 85; refine (l3List_any _ _ _ _ _ _ _ B (by omega) hrk2 (h'.below hb2 hB)).mono ?_; rintro e w2 ⟨rfl, hb3⟩; have hb4 := hb2.trans (hb3.mono hbz1)))
          go_ret
          rw [HNo.out]
          exact ⟨_, _, rfl, (h.below hb4 hB).more (by have := hb4.size; omega), hb4⟩
        · have h0 : (cmpL (gl xss k) x == 0) = false := by
            cases hh : (cmpL (gl xss k) x == 0)
            · rfl
            · exact absurd (cmpL_zero (by simpa using hh)) heq
          rw [if_neg heq] at HNo
          clear heq
          go_wp2_with (first
            | (go_at_call 84; refine (ahead_any _ _ _ _ _ _ _ B (by omega) hrk (h'.below hb hB)).mono ?_; rintro e w1 ⟨rfl, hb1⟩; have hck1 := (hb1.cell (p := ⟨b, o + k, none⟩) (by show b < _; omega)).trans hck; have hb2 := hb.trans (hb1.mono hbz); have hrk2 := hrk.below hb1 (show B ≤ wr.heap.size by omega); have hbz1 := hb2.size)
            | (go_at_call 85; refine (l3List_any _ _ _ _ _ _ _ B (by omega) hrk2 (h'.below hb2 hB)).mono ?_; rintro e w2 ⟨rfl, hb3⟩; have hb4 := hb2.trans (hb3.mono hbz1)))
          have hck' : ¬ c = k := by have := h.len; omega
          obtain ⟨cs, hrd, hlA, hra⟩ := h.below hb4 hB
          have hlc := hra.1
          have hsz := hb4.size
          have hkI : (0 : Int) ≤ (k : Int) := by omega
          have hkl : (k : Int) ≤ (xss.length : Int) := by omega
          have hkc : (k : Int) ≤ (c : Int) := by omega
          have hlcI : (xss.length : Int) ≤ (c : Int) := by omega
          have E5 : Hid (([] : List Value).length + (cs.take k).length = k) := by show _ = _; rw [List.length_nil, List.length_take]; omega
          have E6 : Hid (([] ++ cs.take k : List Value).length + [Value.slice A' x.length c'].length = k + 1) := by show _ = _; rw [List.nil_append, List.length_take, List.length_singleton]; omega
          have E7 : Hid (([] ++ cs.take k ++ [Value.slice A' x.length c'] : List Value).length + (cs.drop k).length = xss.length + 1) := by show _ = _; rw [List.nil_append, List.length_append, List.length_take, List.length_singleton, List.length_drop]; omega
          go_region_held3 (fun w' => True) (trivial)
            (first
              | (refine step_append_rd (by rfl) (.tmp 34) (.tmp 37) 63 22 (.slice none 0 0) 24 (by rfl) Try.underlying63 infoRow rfl (by omega) w2.heap.size (.slice (some ⟨_, 0, none⟩) 0 0) [] (by rfl) (by first | exact Own.of_blk (Blk.new_at _ _ _ (by simp)) (by first | (simp; done) | (simp; omega)) | exact Own.of_blk ((Blk.new_at _ _ _ (by simp)).alloc _) (by first | (simp; done) | (simp; omega))) B _ _ _ (cs.take k) (by rfl) (by simp; omega) (by exact (hrd.below (B' := w2.heap.size) (by (repeat (first | exact Below.refl _ _ | refine Below.drew ?_ | refine Below.alloc ?_ (by first | (simp; done) | (simp; omega)) _))) (by omega)).take k) (fun u hu => hra.cell1 u (List.mem_of_mem_take hu)) (by simp; omega) (by first | (simp; done) | (simp; omega)) ?_; intro A5 c5 w5 ho5 hb5 hg5; rw [E5.out] at ho5 ⊢; have q5 : Below w2.heap.size w2 w5 := Below.trans (by (repeat (first | exact Below.refl _ _ | refine Below.drew ?_ | refine Below.alloc ?_ (by first | (simp; done) | (simp; omega)) _))) hb5)
              | (refine step_append_rd (by rfl) (.tmp 38) (.tmp 40) 63 22 (.slice none 0 0) 24 (by rfl) Try.underlying63 infoRow rfl (by omega) w2.heap.size (.slice A5 _ c5) _ (by rfl) (by first | exact ho5 | exact ho5.below (by (repeat (first | exact Below.refl _ _ | refine Below.drew ?_ | refine Below.alloc ?_ (by first | (simp; done) | (simp; omega)) _)))) _ _ _ _ [.slice A' x.length c'] (by rfl) rfl (by first | exact Rd.of_blk (Blk.new_at _ _ _ (by simp)) (Nat.lt_succ_self _) | exact Rd.of_blk (Blk.grownD hg5 (Blk.new_at _ _ _ (by simp)) (by simp [Value.ownBlock])) (Nat.lt_succ_self _) | exact Rd.of_blk (Blk.grownD hg5 ((Blk.new_at _ _ _ (by simp)).alloc _) (by simp [Value.ownBlock])) (Nat.lt_succ_self _)) (fun u hu => by simp at hu; subst hu; rfl) (by simp; omega) (by have := q5.size; first | omega | (simp; omega)) ?_; intro A6 c6 w6 ho6 hb6 hg6; rw [E6.out] at ho6 ⊢; have q6 : Below w2.heap.size w2 w6 := q5.trans (by first | exact hb6 | exact Below.trans (Below.mono (by (repeat (first | exact Below.refl _ _ | refine Below.drew ?_ | refine Below.alloc ?_ (by first | (simp; done) | (simp; omega)) _))) q5.size) hb6))
              | (refine step_append_rd (by rfl) (.tmp 41) (.tmp 44) 63 22 (.slice none 0 0) 24 (by rfl) Try.underlying63 infoRow rfl (by omega) w2.heap.size (.slice A6 _ c6) _ (by rfl) ho6 B _ _ _ (cs.drop k) (by rfl) (by simp; omega) (by have := (hrd.below q6 (by omega)).cut k (by omega); first | (rw [if_neg hck'] at this; simpa [add_none] using this) | (rw [if_pos rfl] at this; simpa using this)) (fun u hu => hra.cell1 u (List.mem_of_mem_drop hu)) (by simp; omega) q6.size ?_; intro A7 c7 w7 ho7 hb7 hg7; rw [E7.out] at ho7 ⊢; have q7 : Below w2.heap.size w2 w7 := q6.trans hb7))
          all_goals
            go_wp2
            go_ret
            refine ⟨A7, c7, ?_, ?_, hb4.trans (q7.mono hsz)⟩
            · rw [HNo.out]
              have e : (xss.take k ++ [x] ++ xss.drop k).length = xss.length + 1 := by simp; omega
              rw [e]; rfl
            · rw [HNo.out]
              refine ⟨_, ho7.rd, (Lo.own ho7).le (by omega), ?_⟩
              have hra' := (hra.keep (B' := w7.heap.size) fun A c xs hh _ => (hh.below q7 (by omega)).more (by have := q7.size; omega))
              exact ((hra'.take k).append (RowsAt.one ((h'.below (hb4.trans (q7.mono hsz)) hB).more (by have := q7.size; omega)) hlo')).append (hra'.drop k)
      · go_wp2_with (first
          | (go_at_call 84; refine (ahead_any _ _ _ _ _ _ _ B (by omega) hrk (h'.below hb hB)).mono ?_; rintro e w1 ⟨rfl, hb1⟩; have hb2 := hb.trans (hb1.mono hbz)))
        go_roundw
        case rel => exact ⟨k + 1, by go_num, by omega, fun j hj => if hjk : j = k then by rw [hjk]; exact hah else HS.out j (by omega), hb2⟩
        case measure => simp [intOf]; omega
    · obtain rfl : k = xss.length := by omega
      have HNo : Hid (putL xss x = xss.take xss.length ++ [x] ++ xss.drop xss.length) := by
        have := putL_at xss x xss.length (Nat.le_refl _) (fun i hi hik => by rw [← gl_lt hi]; exact HS.out i hik) (fun h => absurd h (by omega))
        rw [dif_neg (by omega)] at this
        show _ = _
        rw [this]; simp
      generalize hkk : xss.length = k at *
      have hk1 : k ≤ xss.length := by omega
      have hk2 : xss.length ≤ k := by omega
      clear hkk hlt
      obtain ⟨w2, rfl⟩ : ∃ w2 : World, w2 = wr := ⟨_, rfl⟩
      have hb4 := hb
      by_cases hck' : c = k
      · subst c
        obtain ⟨c, hcc1, hcc2⟩ : ∃ c : Nat, k ≤ c ∧ xss.length ≤ c := ⟨k, by omega, by omega⟩
        go_wp2
        obtain ⟨cs, hrd, hlA, hra⟩ := h.below hb4 hB
        have hlc := hra.1
        have hsz := hb4.size
        have hkI : (0 : Int) ≤ (k : Int) := by omega
        have hkl : (k : Int) ≤ (xss.length : Int) := by omega
        have hkc : (k : Int) ≤ (c : Int) := by omega
        have hlcI : (xss.length : Int) ≤ (c : Int) := by omega
        have E5 : Hid (([] : List Value).length + (cs.take k).length = k) := by show _ = _; rw [List.length_nil, List.length_take]; omega
        have E6 : Hid (([] ++ cs.take k : List Value).length + [Value.slice A' x.length c'].length = k + 1) := by show _ = _; rw [List.nil_append, List.length_take, List.length_singleton]; omega
        have E7 : Hid (([] ++ cs.take k ++ [Value.slice A' x.length c'] : List Value).length + (cs.drop k).length = xss.length + 1) := by show _ = _; rw [List.nil_append, List.length_append, List.length_take, List.length_singleton, List.length_drop]; omega
        go_region_held3 (fun w' => True) (trivial)
          (first
            | (refine step_append_rd (by rfl) (.tmp 34) (.tmp 37) 63 22 (.slice none 0 0) 24 (by rfl) Try.underlying63 infoRow rfl (by omega) w2.heap.size (.slice (some ⟨_, 0, none⟩) 0 0) [] (by rfl) (by first | exact Own.of_blk (Blk.new_at _ _ _ (by simp)) (by first | (simp; done) | (simp; omega)) | exact Own.of_blk ((Blk.new_at _ _ _ (by simp)).alloc _) (by first | (simp; done) | (simp; omega))) B _ _ _ (cs.take k) (by rfl) (by simp; omega) (by exact (hrd.below (B' := w2.heap.size) (by (repeat (first | exact Below.refl _ _ | refine Below.drew ?_ | refine Below.alloc ?_ (by first | (simp; done) | (simp; omega)) _))) (by omega)).take k) (fun u hu => hra.cell1 u (List.mem_of_mem_take hu)) (by simp; omega) (by first | (simp; done) | (simp; omega)) ?_; intro A5 c5 w5 ho5 hb5 hg5; rw [E5.out] at ho5 ⊢; have q5 : Below w2.heap.size w2 w5 := Below.trans (by (repeat (first | exact Below.refl _ _ | refine Below.drew ?_ | refine Below.alloc ?_ (by first | (simp; done) | (simp; omega)) _))) hb5)
            | (refine step_append_rd (by rfl) (.tmp 38) (.tmp 40) 63 22 (.slice none 0 0) 24 (by rfl) Try.underlying63 infoRow rfl (by omega) w2.heap.size (.slice A5 _ c5) _ (by rfl) (by first | exact ho5 | exact ho5.below (by (repeat (first | exact Below.refl _ _ | refine Below.drew ?_ | refine Below.alloc ?_ (by first | (simp; done) | (simp; omega)) _)))) _ _ _ _ [.slice A' x.length c'] (by rfl) rfl (by first | exact Rd.of_blk (Blk.new_at _ _ _ (by simp)) (Nat.lt_succ_self _) | exact Rd.of_blk (Blk.grownD hg5 (Blk.new_at _ _ _ (by simp)) (by simp [Value.ownBlock])) (Nat.lt_succ_self _) | exact Rd.of_blk (Blk.grownD hg5 ((Blk.new_at _ _ _ (by simp)).alloc _) (by simp [Value.ownBlock])) (Nat.lt_succ_self _)) (fun u hu => by simp at hu; subst hu; rfl) (by simp; omega) (by have := q5.size; first | omega | (simp; omega)) ?_; intro A6 c6 w6 ho6 hb6 hg6; rw [E6.out] at ho6 ⊢; have q6 : Below w2.heap.size w2 w6 := q5.trans (by first | exact hb6 | exact Below.trans (Below.mono (by (repeat (first | exact Below.refl _ _ | refine Below.drew ?_ | refine Below.alloc ?_ (by first | (simp; done) | (simp; omega)) _))) q5.size) hb6))
            | (refine step_append_rd (by rfl) (.tmp 41) (.tmp 44) 63 22 (.slice none 0 0) 24 (by rfl) Try.underlying63 infoRow rfl (by omega) w2.heap.size (.slice A6 _ c6) _ (by rfl) ho6 B _ _ _ (cs.drop k) (by rfl) (by simp; omega) (by have := (hrd.below q6 (by omega)).cut k (by omega); first | (rw [if_neg hck'] at this; simpa [add_none] using this) | (rw [if_pos rfl] at this; simpa using this)) (fun u hu => hra.cell1 u (List.mem_of_mem_drop hu)) (by simp; omega) q6.size ?_; intro A7 c7 w7 ho7 hb7 hg7; rw [E7.out] at ho7 ⊢; have q7 : Below w2.heap.size w2 w7 := q6.trans hb7))
        all_goals
          go_wp2
          go_ret
          refine ⟨A7, c7, ?_, ?_, hb4.trans (q7.mono hsz)⟩
          · rw [HNo.out]
            have e : (xss.take k ++ [x] ++ xss.drop k).length = xss.length + 1 := by simp; omega
            rw [e]; rfl
          · rw [HNo.out]
            refine ⟨_, ho7.rd, (Lo.own ho7).le (by omega), ?_⟩
            have hra' := (hra.keep (B' := w7.heap.size) fun A c xs hh _ => (hh.below q7 (by omega)).more (by have := q7.size; omega))
            exact ((hra'.take k).append (RowsAt.one ((h'.below (hb4.trans (q7.mono hsz)) hB).more (by have := q7.size; omega)) hlo')).append (hra'.drop k)
      · go_wp2
        obtain ⟨cs, hrd, hlA, hra⟩ := h.below hb4 hB
        have hlc := hra.1
        have hsz := hb4.size
        have hkI : (0 : Int) ≤ (k : Int) := by omega
        have hkl : (k : Int) ≤ (xss.length : Int) := by omega
        have hkc : (k : Int) ≤ (c : Int) := by omega
        have hlcI : (xss.length : Int) ≤ (c : Int) := by omega
        have E5 : Hid (([] : List Value).length + (cs.take k).length = k) := by show _ = _; rw [List.length_nil, List.length_take]; omega
        have E6 : Hid (([] ++ cs.take k : List Value).length + [Value.slice A' x.length c'].length = k + 1) := by show _ = _; rw [List.nil_append, List.length_take, List.length_singleton]; omega
        have E7 : Hid (([] ++ cs.take k ++ [Value.slice A' x.length c'] : List Value).length + (cs.drop k).length = xss.length + 1) := by show _ = _; rw [List.nil_append, List.length_append, List.length_take, List.length_singleton, List.length_drop]; omega
        go_region_held3 (fun w' => True) (trivial)
          (first
            | (refine step_append_rd (by rfl) (.tmp 34) (.tmp 37) 63 22 (.slice none 0 0) 24 (by rfl) Try.underlying63 infoRow rfl (by omega) w2.heap.size (.slice (some ⟨_, 0, none⟩) 0 0) [] (by rfl) (by first | exact Own.of_blk (Blk.new_at _ _ _ (by simp)) (by first | (simp; done) | (simp; omega)) | exact Own.of_blk ((Blk.new_at _ _ _ (by simp)).alloc _) (by first | (simp; done) | (simp; omega))) B _ _ _ (cs.take k) (by rfl) (by simp; omega) (by exact (hrd.below (B' := w2.heap.size) (by (repeat (first | exact Below.refl _ _ | refine Below.drew ?_ | refine Below.alloc ?_ (by first | (simp; done) | (simp; omega)) _))) (by omega)).take k) (fun u hu => hra.cell1 u (List.mem_of_mem_take hu)) (by simp; omega) (by first | (simp; done) | (simp; omega)) ?_; intro A5 c5 w5 ho5 hb5 hg5; rw [E5.out] at ho5 ⊢; have q5 : Below w2.heap.size w2 w5 := Below.trans (by (repeat (first | exact Below.refl _ _ | refine Below.drew ?_ | refine Below.alloc ?_ (by first | (simp; done) | (simp; omega)) _))) hb5)
            | (refine step_append_rd (by rfl) (.tmp 38) (.tmp 40) 63 22 (.slice none 0 0) 24 (by rfl) Try.underlying63 infoRow rfl (by omega) w2.heap.size (.slice A5 _ c5) _ (by rfl) (by first | exact ho5 | exact ho5.below (by (repeat (first | exact Below.refl _ _ | refine Below.drew ?_ | refine Below.alloc ?_ (by first | (simp; done) | (simp; omega)) _)))) _ _ _ _ [.slice A' x.length c'] (by rfl) rfl (by first | exact Rd.of_blk (Blk.new_at _ _ _ (by simp)) (Nat.lt_succ_self _) | exact Rd.of_blk (Blk.grownD hg5 (Blk.new_at _ _ _ (by simp)) (by simp [Value.ownBlock])) (Nat.lt_succ_self _) | exact Rd.of_blk (Blk.grownD hg5 ((Blk.new_at _ _ _ (by simp)).alloc _) (by simp [Value.ownBlock])) (Nat.lt_succ_self _)) (fun u hu => by simp at hu; subst hu; rfl) (by simp; omega) (by have := q5.size; first | omega | (simp; omega)) ?_; intro A6 c6 w6 ho6 hb6 hg6; rw [E6.out] at ho6 ⊢; have q6 : Below w2.heap.size w2 w6 := q5.trans (by first | exact hb6 | exact Below.trans (Below.mono (by (repeat (first | exact Below.refl _ _ | refine Below.drew ?_ | refine Below.alloc ?_ (by first | (simp; done) | (simp; omega)) _))) q5.size) hb6))
            | (refine step_append_rd (by rfl) (.tmp 41) (.tmp 44) 63 22 (.slice none 0 0) 24 (by rfl) Try.underlying63 infoRow rfl (by omega) w2.heap.size (.slice A6 _ c6) _ (by rfl) ho6 B _ _ _ (cs.drop k) (by rfl) (by simp; omega) (by have := (hrd.below q6 (by omega)).cut k (by omega); first | (rw [if_neg hck'] at this; simpa [add_none] using this) | (rw [if_pos rfl] at this; simpa using this)) (fun u hu => hra.cell1 u (List.mem_of_mem_drop hu)) (by simp; omega) q6.size ?_; intro A7 c7 w7 ho7 hb7 hg7; rw [E7.out] at ho7 ⊢; have q7 : Below w2.heap.size w2 w7 := q6.trans hb7))
        all_goals
          go_wp2
          go_ret
          refine ⟨A7, c7, ?_, ?_, hb4.trans (q7.mono hsz)⟩
          · rw [HNo.out]
            have e : (xss.take k ++ [x] ++ xss.drop k).length = xss.length + 1 := by simp; omega
            rw [e]; rfl
          · rw [HNo.out]
            refine ⟨_, ho7.rd, (Lo.own ho7).le (by omega), ?_⟩
            have hra' := (hra.keep (B' := w7.heap.size) fun A c xs hh _ => (hh.below q7 (by omega)).more (by have := q7.size; omega))
            exact ((hra'.take k).append (RowsAt.one ((h'.below (hb4.trans (q7.mono hsz)) hB).more (by have := q7.size; omega)) hlo')).append (hra'.drop k)
end Go.Proofs.Ytbledcogbkeneaa
