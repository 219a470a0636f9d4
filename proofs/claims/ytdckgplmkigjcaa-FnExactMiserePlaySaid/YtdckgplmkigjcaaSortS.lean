/- l17Sorted, l17After by contracts. Conditions: none. -/
import Derived.Test.YtdckgplmkigjcaaKeyS
import Derived.Test.YtdckgplmkigjcaaMoves2
import Derived.Deep.RegionHeld3
namespace Go.Proofs.Ytdckgplmkigjcaa
open Go.RowKit
set_option linter.unusedVariables false

theorem ints_one {l : List Int} {u : Value} (h : u ∈ ints l) : u.oneCell' = true := by
  simp [ints] at h
  obtain ⟨y, -, rfl⟩ := h
  rfl
theorem rfl_srt0 (xs : List Int) : srt (nz (xs.take 0)) = [] := by simp [srt, nz]
theorem nz_len_le (xs : List Int) (i : Nat) : (srt (nz (xs.take i))).length ≤ xs.length := by
  rw [srt_len]
  exact Nat.le_trans (nz_len _) (by rw [List.length_take]; omega)

set_option maxRecDepth 100000 in
set_option maxHeartbeats 1600000 in
theorem sortS_any (A : Option Addr) (c : Nat) (xs : List Int) (w : World) (B : Nat) (hB : B ≤ w.heap.size) (h : RdI w B A c xs) (hl : xs.length ≤ 1000000) :
    Calls Try.prog 56 #[.slice A xs.length c] w (RetI w (srt (nz xs))) := by
  have h1 := h.len
  have h2 := h.max
  go_enter Try.func56, Try.ntmps56
  go_wp2
  go_loopw [3, 4] (fun v s wr => ∃ (i : Nat) (A1 : Option Addr) (c1 : Nat), s = .int .i64 i ∧ i ≤ xs.length ∧ v = .slice A1 (srt (nz (xs.take i))).length c1 ∧ Own wr w.heap.size 3 (.slice A1 (srt (nz (xs.take i))).length c1) (ints (srt (nz (xs.take i)))) ∧ Below w.heap.size w wr) (fun _ s _ => xs.length - (intOf s).toNat)
  case atStart =>
    have e0 : srt (nz (xs.take 0)) = [] := rfl_srt0 xs
    refine ⟨0, some ⟨w.heap.size, 0, none⟩, 0, rfl, by omega, by rw [e0]; rfl, ?_, bel1 w _⟩
    rw [e0]
    exact Own.empty w 3 3 _ (Nat.le_refl _)
  case round =>
    obtain ⟨i, A1, c1, rfl, hi, rfl, ho, hb⟩ := hrel
    have hlen := nz_len_le xs i
    by_cases hlt : i < xs.length
    · obtain ⟨bx, ox, rfl, hbx, hc⟩ := (h.below hb hB).at (j := i) hlt
      have hcx := hc i hlt
      clear hc
      obtain ⟨x, hx⟩ : ∃ x, x = gi xs i := ⟨_, rfl⟩
      rw [← hx] at hcx
      have hnz := nz_snoc (xs.take i) x
      rw [hx, ← take_succ_gi xs i hlt, ← hx] at hnz
      by_cases hx0 : x = 0
      · rw [if_pos hx0] at hnz
        have ht : (x == 0) = true := by simp [hx0]
        have HNZ := Lib.hid hnz; have HO := Lib.hid ho
        clear hnz ho hx0 hx h
        go_wp2
        go_roundw
        case rel => exact ⟨i + 1, A1, c1, by go_num, by omega, by rw [HNZ.out], by rw [HNZ.out]; exact HO.out, hb⟩
        case measure => simp [intOf]; omega
      · rw [if_neg hx0] at hnz
        have ht : (x == 0) = false := by simp [hx0]
        have hins : ∀ k, (∀ j, j < k → gi (srt (nz (xs.take i))) j < x) → (k < (srt (nz (xs.take i))).length → x ≤ gi (srt (nz (xs.take i))) k) → srt (nz (xs.take (i + 1))) = (srt (nz (xs.take i))).take k ++ [x] ++ (srt (nz (xs.take i))).drop k := fun k k1 k2 => by
          rw [hnz]; exact srt_ins _ x k k1 k2
        have HINS := Lib.hid hins
        have HB := Lib.hid hb
        clear hins hnz hx0 hx
        obtain ⟨l', hl'⟩ : ∃ l', l' = srt (nz (xs.take (i + 1))) := ⟨_, rfl⟩
        rw [← hl'] at HINS
        have HL' := Lib.hid hl'
        clear hl'
        generalize srt (nz (xs.take i)) = l at *
        go_wp2
        obtain ⟨w1, rfl⟩ : ∃ w1, w1 = wr := ⟨_, rfl⟩
        have hzx := hb.size
        go_loopw [5] (fun s w2 => ∃ k : Nat, s = .int .i64 k ∧ k ≤ l.length ∧ (∀ j, j < k → gi l j < x) ∧ Below w1.heap.size w1 w2) (fun s _ => l.length - (intOf s).toNat)
        case atStart => exact ⟨0, rfl, by omega, fun j hj => by omega, Below.refl _ _⟩
        case round =>
          obtain ⟨k, rfl, hk0, hs, hb2⟩ := hrel
          obtain ⟨wa, rfl⟩ : ∃ wa, wa = wr := ⟨_, rfl⟩
          have HS := Lib.hid hs; clear hs
          have ho2 := ho.below hb2
          have hz2 := hb2.size
          have hcx2 := (hb2.cell (p := ⟨bx, ox + i, none⟩) (show bx < _ by omega)).trans hcx
          have HB2 := Lib.hid (hb.trans (hb2.mono hzx))
          have hrdl := (own_ints.2 ho2).rd rfl
          by_cases hkl : k < l.length
          · obtain ⟨bl, ol, hAl, hbl, hcl⟩ := hrdl.at (j := k) hkl
            have hck := hcl k hkl
            subst hAl
            clear hcl
            have hrl := hrdl.len
            have hrm := hrdl.max
            by_cases hlx : gi l k < x
            · have HLX := Lib.hid hlx
              have HO2 := Lib.hid ho2; have HO := Lib.hid ho
              have hltI : (k : Int) < (l.length : Int) := by omega
              clear ho2 ho hrdl h
              go_wp2
              go_quiet (fail)
              go_wp2
              go_roundw
              case rel => exact ⟨k + 1, by go_num, by omega, fun j hj => if hjk : j = k then by rw [hjk]; exact HLX.out else HS.out j (by omega), bdrew hb2 _⟩
              case measure => simp [intOf]; omega
            · have HNo : Hid (l' = l.take k ++ [x] ++ l.drop k) := HINS.out k HS.out fun _ => by omega
              have hck' : ¬ c1 = k := by omega
              have hltI : (k : Int) < (l.length : Int) := by omega
              have hdx : decide (gi l k < x) = false := decide_eq_false hlx
              have HO := Lib.hid ho
              clear ho hrdl hrl hrm
              go_wp2
              go_quiet (fail)
              have hd := bdrew (Below.refl wa.heap.size wa) nq
              have hoW := ho2.below hd
              have hcxW := (hd.cell (p := ⟨bx, ox + i, none⟩) (show bx < wa.heap.size by omega)).trans hcx2
              have HBW := Lib.hid (HB2.out.trans (hd.mono HB2.out.size))
              have hzW : bx < (wa.drewN nq).heap.size := by have := hd.size; omega
              clear ho2 hcx2 HB2 hd
              generalize wa.drewN nq = w2 at *
              have ho2 := hoW; have hcx2 := hcxW; have HB2 := HBW
              clear hoW hcxW HBW
              clear hck HO hltI hdx hlx
              go_wp2
              have hrd : Rd w2 w2.heap.size _ _ (ints l) := ho2.rd
              have hlc := hrd.1
              have hcm := hrd.max
              rw [ints_len] at hlc
              have hkI : (0 : Int) ≤ (k : Int) := by omega
              have hkl : (k : Int) ≤ (l.length : Int) := by omega
              have hkc : (k : Int) ≤ (c1 : Int) := by omega
              have hlcI : (l.length : Int) ≤ (c1 : Int) := by omega
              have E5 : Hid (([] : List Value).length + ((ints l).take k).length = k) := by show _ = _; rw [List.length_nil, List.length_take, ints_len]; omega
              have E6 : Hid (([] ++ (ints l).take k : List Value).length + [Value.int .i64 x].length = k + 1) := by show _ = _; rw [List.nil_append, List.length_take, List.length_singleton, ints_len]; omega
              have E7 : Hid (([] ++ (ints l).take k ++ [Value.int .i64 x] : List Value).length + ((ints l).drop k).length = l.length + 1) := by show _ = _; rw [List.nil_append, List.length_append, List.length_take, List.length_singleton, List.length_drop, ints_len]; omega
              have HCX : Hid (∀ w', Below w2.heap.size w2 w' → w'.cell? ⟨bx, ox + i, none⟩ = some (.int .i64 x)) := fun w' hb => (hb.cell (p := ⟨bx, ox + i, none⟩) (show bx < _ by omega)).trans hcx2
              clear hk0
              go_region_held3 (fun w' => w'.cell? ⟨bx, ox + i, none⟩ = some (.int .i64 x)) (go_keep)
                (first
                  | (refine step_append_rd (by rfl) (.tmp 35) (.tmp 38) 22 3 (.int .i64 0) 8 (by rfl) Try.underlying22 infoInt rfl (by omega) w2.heap.size (.slice (some ⟨_, 0, none⟩) 0 0) [] (by rfl) (by first | exact Own.of_blk (Blk.new_at _ _ _ (by simp)) (by first | (simp; done) | (simp; omega)) | exact Own.of_blk ((Blk.new_at _ _ _ (by simp)).alloc _) (by first | (simp; done) | (simp; omega))) w2.heap.size _ _ _ ((ints l).take k) (by rfl) (by first | (rw [List.length_take, ints_len]; omega) | (simp [ints_len]; done) | (simp [ints_len]; omega)) (by exact ((hrd.below (B' := w2.heap.size) (by (repeat (first | exact Below.refl _ _ | refine Below.drew ?_ | refine Below.alloc ?_ (by first | (simp; done) | (simp; omega)) _))) (by omega)).take k)) (fun u hu => ints_one (List.mem_of_mem_take hu)) (by rw [E5.out]; omega) (by first | (simp; done) | (simp; omega)) ?_; intro A5 c5 w5 ho5 hb5 hg5; rw [E5.out] at ho5 ⊢; have q5 : Below w2.heap.size w2 w5 := Below.trans (by (repeat (first | exact Below.refl _ _ | refine Below.drew ?_ | refine Below.alloc ?_ (by first | (simp; done) | (simp; omega)) _))) hb5; have s5 := HCX.out _ q5)
                  | (refine step_append_rd (by rfl) (.tmp 39) (.tmp 44) 22 3 (.int .i64 0) 8 (by rfl) Try.underlying22 infoInt rfl (by omega) w2.heap.size (.slice A5 _ c5) _ (by rfl) (by first | exact ho5 | exact ho5.below (by (repeat (first | exact Below.refl _ _ | refine Below.drew ?_ | refine Below.alloc ?_ (by first | (simp; done) | (simp; omega)) _)))) _ _ _ _ [.int .i64 x] (by rfl) rfl (by first | exact Rd.of_blk (Blk.new_at _ _ _ (by simp)) (Nat.lt_succ_self _) | exact Rd.of_blk (Blk.grownD hg5 (Blk.new_at _ _ _ (by simp)) (by simp [Value.ownBlock])) (Nat.lt_succ_self _) | exact Rd.of_blk (Blk.grownD hg5 ((Blk.new_at _ _ _ (by simp)).alloc _) (by simp [Value.ownBlock])) (Nat.lt_succ_self _)) (fun u hu => by simp at hu; subst hu; rfl) (by rw [E6.out]; omega) (by have := q5.size; first | omega | (simp; omega)) ?_; intro A6 c6 w6 ho6 hb6 hg6; rw [E6.out] at ho6 ⊢; have q6 : Below w2.heap.size w2 w6 := q5.trans (by first | exact hb6 | exact Below.trans (Below.mono (by (repeat (first | exact Below.refl _ _ | refine Below.drew ?_ | refine Below.alloc ?_ (by first | (simp; done) | (simp; omega)) _))) q5.size) hb6); have s6 := HCX.out _ q6)
                  | (refine step_append_rd (by rfl) (.tmp 45) (.tmp 48) 22 3 (.int .i64 0) 8 (by rfl) Try.underlying22 infoInt rfl (by omega) w2.heap.size (.slice A6 _ c6) _ (by rfl) ho6 w2.heap.size _ _ _ ((ints l).drop k) (by rfl) (by first | (rw [List.length_drop, ints_len]; done) | (rw [List.length_drop, ints_len]; omega) | (simp [ints_len]; omega)) (by have := (hrd.below q6 (by omega)).cut k (by rw [ints_len]; omega); first | (rw [if_neg hck'] at this; simpa [add_none] using this) | (rw [if_pos rfl] at this; simpa using this)) (fun u hu => ints_one (List.mem_of_mem_drop hu)) (by rw [E7.out]; omega) q6.size ?_; intro A7 c7 w7 ho7 hb7 hg7; rw [E7.out] at ho7 ⊢; have q7 : Below w2.heap.size w2 w7 := q6.trans hb7; have s7 := HCX.out _ q7))
              all_goals
                go_wp2
                go_roundw
                case rel =>
                  have e2 : ints (l.take k ++ [x] ++ l.drop k) = [] ++ (ints l).take k ++ [Value.int .i64 x] ++ (ints l).drop k := by simp [ints, List.map_take, List.map_drop]
                  have e3 : (l.take k ++ [x] ++ l.drop k).length = l.length + 1 := by simp; omega
                  rw [← e2, ← HNo.out] at ho7
                  rw [← HNo.out] at e3
                  have e4 := HL'.out
                  refine ⟨i + 1, A7, c7, by go_num, by omega, by rw [← e4, e3], ?_, HB2.out.trans (q7.mono HB2.out.size)⟩
                  rw [← e4, e3]
                  exact ho7.le HB2.out.size
                case measure => simp [intOf]; omega
          · have HNo : Hid (l' = l.take k ++ [x] ++ l.drop k) := HINS.out k HS.out fun hh => absurd hh hkl
            have hkl2 : l.length ≤ k := by omega
            have hdk : decide (k < l.length) = false := by simp; omega
            clear hkl
            have HO := Lib.hid ho
            clear ho hrdl
            by_cases hck' : c1 = k
            · subst c1
              obtain ⟨c1, hcc1, hcc2⟩ : ∃ c1 : Nat, k ≤ c1 ∧ l.length ≤ c1 := ⟨k, by omega, by omega⟩
              go_wp2
              go_quiet (fail)
              have hd := bdrew (Below.refl wa.heap.size wa) nq
              have hoW := ho2.below hd
              have hcxW := (hd.cell (p := ⟨bx, ox + i, none⟩) (show bx < wa.heap.size by omega)).trans hcx2
              have HBW := Lib.hid (HB2.out.trans (hd.mono HB2.out.size))
              have hzW : bx < (wa.drewN nq).heap.size := by have := hd.size; omega
              clear ho2 hcx2 HB2 hd
              generalize wa.drewN nq = w2 at *
              have ho2 := hoW; have hcx2 := hcxW; have HB2 := HBW
              clear hoW hcxW HBW
              clear HO hdk
              go_wp2
              have hrd : Rd w2 w2.heap.size _ _ (ints l) := ho2.rd
              have hlc := hrd.1
              have hcm := hrd.max
              rw [ints_len] at hlc
              have hkI : (0 : Int) ≤ (k : Int) := by omega
              have hkl : (k : Int) ≤ (l.length : Int) := by omega
              have hkc : (k : Int) ≤ (c1 : Int) := by omega
              have hlcI : (l.length : Int) ≤ (c1 : Int) := by omega
              have E5 : Hid (([] : List Value).length + ((ints l).take k).length = k) := by show _ = _; rw [List.length_nil, List.length_take, ints_len]; omega
              have E6 : Hid (([] ++ (ints l).take k : List Value).length + [Value.int .i64 x].length = k + 1) := by show _ = _; rw [List.nil_append, List.length_take, List.length_singleton, ints_len]; omega
              have E7 : Hid (([] ++ (ints l).take k ++ [Value.int .i64 x] : List Value).length + ((ints l).drop k).length = l.length + 1) := by show _ = _; rw [List.nil_append, List.length_append, List.length_take, List.length_singleton, List.length_drop, ints_len]; omega
              have HCX : Hid (∀ w', Below w2.heap.size w2 w' → w'.cell? ⟨bx, ox + i, none⟩ = some (.int .i64 x)) := fun w' hb => (hb.cell (p := ⟨bx, ox + i, none⟩) (show bx < _ by omega)).trans hcx2
              clear hk0
              go_region_held3 (fun w' => w'.cell? ⟨bx, ox + i, none⟩ = some (.int .i64 x)) (go_keep)
                (first
                  | (refine step_append_rd (by rfl) (.tmp 35) (.tmp 38) 22 3 (.int .i64 0) 8 (by rfl) Try.underlying22 infoInt rfl (by omega) w2.heap.size (.slice (some ⟨_, 0, none⟩) 0 0) [] (by rfl) (by first | exact Own.of_blk (Blk.new_at _ _ _ (by simp)) (by first | (simp; done) | (simp; omega)) | exact Own.of_blk ((Blk.new_at _ _ _ (by simp)).alloc _) (by first | (simp; done) | (simp; omega))) w2.heap.size _ _ _ ((ints l).take k) (by rfl) (by first | (rw [List.length_take, ints_len]; omega) | (simp [ints_len]; done) | (simp [ints_len]; omega)) (by exact ((hrd.below (B' := w2.heap.size) (by (repeat (first | exact Below.refl _ _ | refine Below.drew ?_ | refine Below.alloc ?_ (by first | (simp; done) | (simp; omega)) _))) (by omega)).take k)) (fun u hu => ints_one (List.mem_of_mem_take hu)) (by rw [E5.out]; omega) (by first | (simp; done) | (simp; omega)) ?_; intro A5 c5 w5 ho5 hb5 hg5; rw [E5.out] at ho5 ⊢; have q5 : Below w2.heap.size w2 w5 := Below.trans (by (repeat (first | exact Below.refl _ _ | refine Below.drew ?_ | refine Below.alloc ?_ (by first | (simp; done) | (simp; omega)) _))) hb5; have s5 := HCX.out _ q5)
                  | (refine step_append_rd (by rfl) (.tmp 39) (.tmp 44) 22 3 (.int .i64 0) 8 (by rfl) Try.underlying22 infoInt rfl (by omega) w2.heap.size (.slice A5 _ c5) _ (by rfl) (by first | exact ho5 | exact ho5.below (by (repeat (first | exact Below.refl _ _ | refine Below.drew ?_ | refine Below.alloc ?_ (by first | (simp; done) | (simp; omega)) _)))) _ _ _ _ [.int .i64 x] (by rfl) rfl (by first | exact Rd.of_blk (Blk.new_at _ _ _ (by simp)) (Nat.lt_succ_self _) | exact Rd.of_blk (Blk.grownD hg5 (Blk.new_at _ _ _ (by simp)) (by simp [Value.ownBlock])) (Nat.lt_succ_self _) | exact Rd.of_blk (Blk.grownD hg5 ((Blk.new_at _ _ _ (by simp)).alloc _) (by simp [Value.ownBlock])) (Nat.lt_succ_self _)) (fun u hu => by simp at hu; subst hu; rfl) (by rw [E6.out]; omega) (by have := q5.size; first | omega | (simp; omega)) ?_; intro A6 c6 w6 ho6 hb6 hg6; rw [E6.out] at ho6 ⊢; have q6 : Below w2.heap.size w2 w6 := q5.trans (by first | exact hb6 | exact Below.trans (Below.mono (by (repeat (first | exact Below.refl _ _ | refine Below.drew ?_ | refine Below.alloc ?_ (by first | (simp; done) | (simp; omega)) _))) q5.size) hb6); have s6 := HCX.out _ q6)
                  | (refine step_append_rd (by rfl) (.tmp 45) (.tmp 48) 22 3 (.int .i64 0) 8 (by rfl) Try.underlying22 infoInt rfl (by omega) w2.heap.size (.slice A6 _ c6) _ (by rfl) ho6 w2.heap.size _ _ _ ((ints l).drop k) (by rfl) (by first | (rw [List.length_drop, ints_len]; done) | (rw [List.length_drop, ints_len]; omega) | (simp [ints_len]; omega)) (by have := (hrd.below q6 (by omega)).cut k (by rw [ints_len]; omega); first | (rw [if_neg hck'] at this; simpa [add_none] using this) | (rw [if_pos rfl] at this; simpa using this)) (fun u hu => ints_one (List.mem_of_mem_drop hu)) (by rw [E7.out]; omega) q6.size ?_; intro A7 c7 w7 ho7 hb7 hg7; rw [E7.out] at ho7 ⊢; have q7 : Below w2.heap.size w2 w7 := q6.trans hb7; have s7 := HCX.out _ q7))
              all_goals
                go_wp2
                go_roundw
                case rel =>
                  have e2 : ints (l.take k ++ [x] ++ l.drop k) = [] ++ (ints l).take k ++ [Value.int .i64 x] ++ (ints l).drop k := by simp [ints, List.map_take, List.map_drop]
                  have e3 : (l.take k ++ [x] ++ l.drop k).length = l.length + 1 := by simp; omega
                  rw [← e2, ← HNo.out] at ho7
                  rw [← HNo.out] at e3
                  have e4 := HL'.out
                  refine ⟨i + 1, A7, c7, by go_num, by omega, by rw [← e4, e3], ?_, HB2.out.trans (q7.mono HB2.out.size)⟩
                  rw [← e4, e3]
                  exact ho7.le HB2.out.size
                case measure => simp [intOf]; omega
            · go_wp2
              go_quiet (fail)
              have hd := bdrew (Below.refl wa.heap.size wa) nq
              have hoW := ho2.below hd
              have hcxW := (hd.cell (p := ⟨bx, ox + i, none⟩) (show bx < wa.heap.size by omega)).trans hcx2
              have HBW := Lib.hid (HB2.out.trans (hd.mono HB2.out.size))
              have hzW : bx < (wa.drewN nq).heap.size := by have := hd.size; omega
              clear ho2 hcx2 HB2 hd
              generalize wa.drewN nq = w2 at *
              have ho2 := hoW; have hcx2 := hcxW; have HB2 := HBW
              clear hoW hcxW HBW
              clear HO hdk
              go_wp2
              have hrd : Rd w2 w2.heap.size _ _ (ints l) := ho2.rd
              have hlc := hrd.1
              have hcm := hrd.max
              rw [ints_len] at hlc
              have hkI : (0 : Int) ≤ (k : Int) := by omega
              have hkl : (k : Int) ≤ (l.length : Int) := by omega
              have hkc : (k : Int) ≤ (c1 : Int) := by omega
              have hlcI : (l.length : Int) ≤ (c1 : Int) := by omega
              have E5 : Hid (([] : List Value).length + ((ints l).take k).length = k) := by show _ = _; rw [List.length_nil, List.length_take, ints_len]; omega
              have E6 : Hid (([] ++ (ints l).take k : List Value).length + [Value.int .i64 x].length = k + 1) := by show _ = _; rw [List.nil_append, List.length_take, List.length_singleton, ints_len]; omega
              have E7 : Hid (([] ++ (ints l).take k ++ [Value.int .i64 x] : List Value).length + ((ints l).drop k).length = l.length + 1) := by show _ = _; rw [List.nil_append, List.length_append, List.length_take, List.length_singleton, List.length_drop, ints_len]; omega
              have HCX : Hid (∀ w', Below w2.heap.size w2 w' → w'.cell? ⟨bx, ox + i, none⟩ = some (.int .i64 x)) := fun w' hb => (hb.cell (p := ⟨bx, ox + i, none⟩) (show bx < _ by omega)).trans hcx2
              clear hk0
              go_region_held3 (fun w' => w'.cell? ⟨bx, ox + i, none⟩ = some (.int .i64 x)) (go_keep)
                (first
                  | (refine step_append_rd (by rfl) (.tmp 35) (.tmp 38) 22 3 (.int .i64 0) 8 (by rfl) Try.underlying22 infoInt rfl (by omega) w2.heap.size (.slice (some ⟨_, 0, none⟩) 0 0) [] (by rfl) (by first | exact Own.of_blk (Blk.new_at _ _ _ (by simp)) (by first | (simp; done) | (simp; omega)) | exact Own.of_blk ((Blk.new_at _ _ _ (by simp)).alloc _) (by first | (simp; done) | (simp; omega))) w2.heap.size _ _ _ ((ints l).take k) (by rfl) (by first | (rw [List.length_take, ints_len]; omega) | (simp [ints_len]; done) | (simp [ints_len]; omega)) (by exact ((hrd.below (B' := w2.heap.size) (by (repeat (first | exact Below.refl _ _ | refine Below.drew ?_ | refine Below.alloc ?_ (by first | (simp; done) | (simp; omega)) _))) (by omega)).take k)) (fun u hu => ints_one (List.mem_of_mem_take hu)) (by rw [E5.out]; omega) (by first | (simp; done) | (simp; omega)) ?_; intro A5 c5 w5 ho5 hb5 hg5; rw [E5.out] at ho5 ⊢; have q5 : Below w2.heap.size w2 w5 := Below.trans (by (repeat (first | exact Below.refl _ _ | refine Below.drew ?_ | refine Below.alloc ?_ (by first | (simp; done) | (simp; omega)) _))) hb5; have s5 := HCX.out _ q5)
                  | (refine step_append_rd (by rfl) (.tmp 39) (.tmp 44) 22 3 (.int .i64 0) 8 (by rfl) Try.underlying22 infoInt rfl (by omega) w2.heap.size (.slice A5 _ c5) _ (by rfl) (by first | exact ho5 | exact ho5.below (by (repeat (first | exact Below.refl _ _ | refine Below.drew ?_ | refine Below.alloc ?_ (by first | (simp; done) | (simp; omega)) _)))) _ _ _ _ [.int .i64 x] (by rfl) rfl (by first | exact Rd.of_blk (Blk.new_at _ _ _ (by simp)) (Nat.lt_succ_self _) | exact Rd.of_blk (Blk.grownD hg5 (Blk.new_at _ _ _ (by simp)) (by simp [Value.ownBlock])) (Nat.lt_succ_self _) | exact Rd.of_blk (Blk.grownD hg5 ((Blk.new_at _ _ _ (by simp)).alloc _) (by simp [Value.ownBlock])) (Nat.lt_succ_self _)) (fun u hu => by simp at hu; subst hu; rfl) (by rw [E6.out]; omega) (by have := q5.size; first | omega | (simp; omega)) ?_; intro A6 c6 w6 ho6 hb6 hg6; rw [E6.out] at ho6 ⊢; have q6 : Below w2.heap.size w2 w6 := q5.trans (by first | exact hb6 | exact Below.trans (Below.mono (by (repeat (first | exact Below.refl _ _ | refine Below.drew ?_ | refine Below.alloc ?_ (by first | (simp; done) | (simp; omega)) _))) q5.size) hb6); have s6 := HCX.out _ q6)
                  | (refine step_append_rd (by rfl) (.tmp 45) (.tmp 48) 22 3 (.int .i64 0) 8 (by rfl) Try.underlying22 infoInt rfl (by omega) w2.heap.size (.slice A6 _ c6) _ (by rfl) ho6 w2.heap.size _ _ _ ((ints l).drop k) (by rfl) (by first | (rw [List.length_drop, ints_len]; done) | (rw [List.length_drop, ints_len]; omega) | (simp [ints_len]; omega)) (by have := (hrd.below q6 (by omega)).cut k (by rw [ints_len]; omega); first | (rw [if_neg hck'] at this; simpa [add_none] using this) | (rw [if_pos rfl] at this; simpa using this)) (fun u hu => ints_one (List.mem_of_mem_drop hu)) (by rw [E7.out]; omega) q6.size ?_; intro A7 c7 w7 ho7 hb7 hg7; rw [E7.out] at ho7 ⊢; have q7 : Below w2.heap.size w2 w7 := q6.trans hb7; have s7 := HCX.out _ q7))
              all_goals
                go_wp2
                go_roundw
                case rel =>
                  have e2 : ints (l.take k ++ [x] ++ l.drop k) = [] ++ (ints l).take k ++ [Value.int .i64 x] ++ (ints l).drop k := by simp [ints, List.map_take, List.map_drop]
                  have e3 : (l.take k ++ [x] ++ l.drop k).length = l.length + 1 := by simp; omega
                  rw [← e2, ← HNo.out] at ho7
                  rw [← HNo.out] at e3
                  have e4 := HL'.out
                  refine ⟨i + 1, A7, c7, by go_num, by omega, by rw [← e4, e3], ?_, HB2.out.trans (q7.mono HB2.out.size)⟩
                  rw [← e4, e3]
                  exact ho7.le HB2.out.size
                case measure => simp [intOf]; omega
    · obtain rfl : i = xs.length := by omega
      rw [List.take_length] at ho ⊢
      go_wp2
      go_ret
      exact ⟨A1, c1, rfl, own_ints.2 ho, hb⟩

theorem elem_one (w : World) : (Go.sizeOf (Try.prog.elem 22)).run Try.prog w = .ok 1 w := by kernel_rfl
set_option maxRecDepth 100000 in
theorem slice_from (b o n c i : Nat) (hl : i + 1 ≤ n) (w : World) :
    (Instr.slice 22 (.slice (some ⟨b, o, none⟩) n c) (some (.int .i64 ((i : Int) + 1))) none none).run Try.prog w = .ok (.slice (if c = i + 1 then some ⟨b, o, none⟩ else some ⟨b, o + (i + 1), none⟩) (n - (i + 1)) (c - (i + 1))) w := by
  have h := run_slice_l (P := Try.prog) (w := w) 22 (some ⟨b, o, none⟩) n c Try.underlying22 .i64 ((i : Int) + 1) (by omega) (by omega)
  have e : ((i : Int) + 1).toNat = i + 1 := by omega
  rw [e] at h
  rw [h]
  have hs : (Go.sizeOf (Try.prog.elem 22)).run Try.prog w = .ok 1 w := elem_one w
  rw [hs]
  simp only [Result.andThen, sliced, Nat.mul_one, Option.map_some, add_none]
set_option maxRecDepth 100000 in
theorem slice_to (b o n c i : Nat) (hl : i ≤ c) (w : World) :
    (Instr.slice 22 (.slice (some ⟨b, o, none⟩) n c) none (some (.int .i64 (i : Int))) none).run Try.prog w = .ok (.slice (some ⟨b, o, none⟩) i c) w := by
  have h := run_slice_h (P := Try.prog) (w := w) 22 (some ⟨b, o, none⟩) n c Try.underlying22 .i64 (i : Int) (by omega) (by omega)
  rw [Int.toNat_natCast] at h
  rw [h]
  have hs : (Go.sizeOf (Try.prog.elem 22)).run Try.prog w = .ok 1 w := elem_one w
  rw [hs]
  simp only [Result.andThen, sliced, Nat.zero_mul, Nat.sub_zero, Option.map_some, add_none, Nat.add_zero]
  split <;> rfl
theorem aft_len {p mv : List Int} {i : Nat} : (aft p i mv).length = (aft0 p i mv).length := srt_len _

set_option maxRecDepth 100000 in
set_option maxHeartbeats 1600000 in
theorem afterS_any (A A' : Option Addr) (c c' i : Nat) (p mv : List Int) (w : World) (B : Nat) (hB : B ≤ w.heap.size) (h : RdI w B A c p) (h' : RdI w B A' c' mv) (hi : i < p.length) (hl : p.length ≤ 1000) (hm : mv.length ≤ 1000) (hnz : ∀ x ∈ aft0 p i mv, 1 ≤ x) :
    Calls Try.prog 59 #[.slice A p.length c, .int .i64 i, .slice A' mv.length c'] w (RetI w (aft p i mv)) := by
  have h1 := h.len
  have h2 := h.max
  have HNZ : Hid (srt (nz (aft0 p i mv)) = aft p i mv) := by show _ = _; rw [nz_self hnz]; rfl
  have HLEN : Hid ((aft0 p i mv).length ≤ 1000000) := by show _ ≤ _; unfold aft0; rw [List.length_append, List.length_append, List.length_take, List.length_drop]; omega
  clear hnz
  obtain ⟨b, o, rfl, hbB, hc⟩ := h.at (j := i) hi
  clear hc
  have hiI : (i : Int) < (p.length : Int) := by omega
  have hi0 : (0 : Int) ≤ (i : Int) := by omega
  have hi1 : (0 : Int) ≤ (i : Int) + 1 := by omega
  have hil : (i : Int) ≤ (c : Int) := by omega
  have hic : (i : Int) + 1 ≤ (c : Int) := by omega
  have hip : (i : Int) + 1 ≤ (p.length : Int) := by omega
  have hsl := slice_from b o p.length c i hi
  have hsl0 := slice_to b o p.length c i (by omega)
  have hww : IntKind.i64.wrap ((i : Int) + 1) = (i : Int) + 1 := by rw [IntKind.wrap_i64]; omega
  by_cases hck' : c = i + 1
  · rw [if_pos hck'] at hsl
    subst hck'
    go_enter Try.func59, Try.ntmps59
    go_wp2
    have hrd : Rd w B (some ⟨b, o, none⟩) _ (ints p) := h
    have E5 : Hid (([] : List Value).length + ((ints p).take i).length = i) := by show _ = _; rw [List.length_nil, List.length_take, ints_len]; omega
    have E6 : Hid (([] ++ (ints p).take i : List Value).length + ((ints p).drop (i + 1)).length = p.length - 1) := by show _ = _; rw [List.nil_append, List.length_take, List.length_drop, ints_len]; omega
    go_region_held3 (fun w' => True) (trivial)
      (first
        | (refine step_append_rd (by rfl) (.tmp 8) (.tmp 11) 22 3 (.int .i64 0) 8 (by rfl) Try.underlying22 infoInt rfl (by omega) w.heap.size (.slice (some ⟨_, 0, none⟩) 0 0) [] (by rfl) (by first | exact Own.of_blk (Blk.new_at _ _ _ (by simp)) (by first | (simp; done) | (simp; omega)) | exact Own.of_blk ((Blk.new_at _ _ _ (by simp)).alloc _) (by first | (simp; done) | (simp; omega))) B _ _ _ ((ints p).take i) (by rfl) (by first | (rw [List.length_take, ints_len]; omega) | (simp [ints_len]; done) | (simp [ints_len]; omega)) (by exact ((hrd.below (B' := w.heap.size) (by (repeat (first | exact Below.refl _ _ | refine Below.drew ?_ | refine Below.alloc ?_ (by first | (simp; done) | (simp; omega)) _))) (by omega)).take i)) (fun u hu => ints_one (List.mem_of_mem_take hu)) (by rw [E5.out]; omega) (by first | (simp; done) | (simp; omega)) ?_; intro A5 c5 w5 ho5 hb5 hg5; rw [E5.out] at ho5 ⊢; have q5 : Below w.heap.size w w5 := Below.trans (by (repeat (first | exact Below.refl _ _ | refine Below.drew ?_ | refine Below.alloc ?_ (by first | (simp; done) | (simp; omega)) _))) hb5)
        | (refine step_append_rd (by rfl) (.tmp 12) (.tmp 16) 22 3 (.int .i64 0) 8 (by rfl) Try.underlying22 infoInt rfl (by omega) w.heap.size (.slice A5 _ c5) _ (by rfl) (by first | exact ho5 | exact ho5.below (by (repeat (first | exact Below.refl _ _ | refine Below.drew ?_ | refine Below.alloc ?_ (by first | (simp; done) | (simp; omega)) _)))) B _ _ _ ((ints p).drop (i + 1)) (by rfl) (by first | (rw [List.length_drop, ints_len]; done) | (rw [List.length_drop, ints_len]; omega) | (simp [ints_len]; omega)) (by have := (hrd.below q5 (by omega)).cut (i + 1) (by rw [ints_len]; omega); first | (rw [if_neg hck'] at this; simpa [add_none] using this) | (rw [if_pos rfl] at this; simpa using this)) (fun u hu => ints_one (List.mem_of_mem_drop hu)) (by rw [E6.out]; omega) (by have := q5.size; first | omega | (simp; omega)) ?_; intro A6 c6 w6 ho6 hb6 hg6; rw [E6.out] at ho6 ⊢; have q6 : Below w.heap.size w w6 := q5.trans (by first | exact hb6 | exact Below.trans (Below.mono (by (repeat (first | exact Below.refl _ _ | refine Below.drew ?_ | refine Below.alloc ?_ (by first | (simp; done) | (simp; omega)) _))) q5.size) hb6)))
    all_goals
      have e0 : [] ++ (ints p).take i ++ (ints p).drop (i + 1) = ints (p.take i ++ p.drop (i + 1)) := by simp [ints, List.map_take, List.map_drop]
      rw [e0] at ho6
      have e1 : (p.take i ++ p.drop (i + 1)).length = p.length - 1 := by rw [List.length_append, List.length_take, List.length_drop]; omega
      have hlo : Hid ((p.take i ++ p.drop (i + 1)).length = p.length - 1) := e1
      have HAFT : Hid (p.take i ++ p.drop (i + 1) ++ mv = aft0 p i mv) := rfl
      have HE9 : Hid (ints (p.take i ++ p.drop (i + 1)) ++ ints mv = ints (aft0 p i mv)) := (List.map_append (f := Value.int .i64)).symm
      generalize p.take i ++ p.drop (i + 1) = r at *
      have hr6 := h'.below q6 hB
      have hm6 := hr6.len
      have hcm := hr6.max
      have hz6 := q6.size
      clear e0 e1 ho5 hb5 hg5 hb6 hg6 hrd
      go_wp2_with (first
        | (at_builtin; go_loud (refine wpList_append_rd rfl _ _ 22 3 (.int .i64 0) 8 rfl Try.underlying22 infoInt rfl (by omega) w.heap.size (.slice A6 (p.length - 1) c6) (ints r) rfl ho6 B A' mv.length c' (ints mv) rfl (by rw [ints_len]) hr6 (fun u hu => ints_one hu) (by rw [ints_len, ints_len, hlo.out]; omega) (by omega) ?_; intro A8 c8 w8 ho8 hb8 hg8; rw [ints_len, ints_len, ← List.length_append] at ho8 ⊢; have e9 : ints r ++ ints mv = ints (aft0 p i mv) := HE9.out; rw [e9] at ho8; rw [HAFT.out] at ho8 ⊢; have g8 := q6.trans hb8; have hz8 := g8.size))
        | (go_at_call 56; (with_reducible refine (sortS_any _ _ (aft0 p i mv) _ _ (Nat.le_refl _) ((own_ints.2 ho8).rd rfl) HLEN.out).mono ?_); rintro e w9 ⟨A9, c9, rfl, ho9, hb9⟩; rw [HNZ.out] at ho9 ⊢))
      go_ret
      exact ⟨A9, c9, rfl, (own_ints.2 ((own_ints.1 ho9).le hz8)), g8.trans (hb9.mono hz8)⟩
  · rw [if_neg hck'] at hsl
    go_enter Try.func59, Try.ntmps59
    go_wp2
    have hrd : Rd w B (some ⟨b, o, none⟩) _ (ints p) := h
    have E5 : Hid (([] : List Value).length + ((ints p).take i).length = i) := by show _ = _; rw [List.length_nil, List.length_take, ints_len]; omega
    have E6 : Hid (([] ++ (ints p).take i : List Value).length + ((ints p).drop (i + 1)).length = p.length - 1) := by show _ = _; rw [List.nil_append, List.length_take, List.length_drop, ints_len]; omega
    go_region_held3 (fun w' => True) (trivial)
      (first
        | (refine step_append_rd (by rfl) (.tmp 8) (.tmp 11) 22 3 (.int .i64 0) 8 (by rfl) Try.underlying22 infoInt rfl (by omega) w.heap.size (.slice (some ⟨_, 0, none⟩) 0 0) [] (by rfl) (by first | exact Own.of_blk (Blk.new_at _ _ _ (by simp)) (by first | (simp; done) | (simp; omega)) | exact Own.of_blk ((Blk.new_at _ _ _ (by simp)).alloc _) (by first | (simp; done) | (simp; omega))) B _ _ _ ((ints p).take i) (by rfl) (by first | (rw [List.length_take, ints_len]; omega) | (simp [ints_len]; done) | (simp [ints_len]; omega)) (by exact ((hrd.below (B' := w.heap.size) (by (repeat (first | exact Below.refl _ _ | refine Below.drew ?_ | refine Below.alloc ?_ (by first | (simp; done) | (simp; omega)) _))) (by omega)).take i)) (fun u hu => ints_one (List.mem_of_mem_take hu)) (by rw [E5.out]; omega) (by first | (simp; done) | (simp; omega)) ?_; intro A5 c5 w5 ho5 hb5 hg5; rw [E5.out] at ho5 ⊢; have q5 : Below w.heap.size w w5 := Below.trans (by (repeat (first | exact Below.refl _ _ | refine Below.drew ?_ | refine Below.alloc ?_ (by first | (simp; done) | (simp; omega)) _))) hb5)
        | (refine step_append_rd (by rfl) (.tmp 12) (.tmp 16) 22 3 (.int .i64 0) 8 (by rfl) Try.underlying22 infoInt rfl (by omega) w.heap.size (.slice A5 _ c5) _ (by rfl) (by first | exact ho5 | exact ho5.below (by (repeat (first | exact Below.refl _ _ | refine Below.drew ?_ | refine Below.alloc ?_ (by first | (simp; done) | (simp; omega)) _)))) B _ _ _ ((ints p).drop (i + 1)) (by rfl) (by first | (rw [List.length_drop, ints_len]; done) | (rw [List.length_drop, ints_len]; omega) | (simp [ints_len]; omega)) (by have := (hrd.below q5 (by omega)).cut (i + 1) (by rw [ints_len]; omega); first | (rw [if_neg hck'] at this; simpa [add_none] using this) | (rw [if_pos rfl] at this; simpa using this)) (fun u hu => ints_one (List.mem_of_mem_drop hu)) (by rw [E6.out]; omega) (by have := q5.size; first | omega | (simp; omega)) ?_; intro A6 c6 w6 ho6 hb6 hg6; rw [E6.out] at ho6 ⊢; have q6 : Below w.heap.size w w6 := q5.trans (by first | exact hb6 | exact Below.trans (Below.mono (by (repeat (first | exact Below.refl _ _ | refine Below.drew ?_ | refine Below.alloc ?_ (by first | (simp; done) | (simp; omega)) _))) q5.size) hb6)))
    all_goals
      have e0 : [] ++ (ints p).take i ++ (ints p).drop (i + 1) = ints (p.take i ++ p.drop (i + 1)) := by simp [ints, List.map_take, List.map_drop]
      rw [e0] at ho6
      have e1 : (p.take i ++ p.drop (i + 1)).length = p.length - 1 := by rw [List.length_append, List.length_take, List.length_drop]; omega
      have hlo : Hid ((p.take i ++ p.drop (i + 1)).length = p.length - 1) := e1
      have HAFT : Hid (p.take i ++ p.drop (i + 1) ++ mv = aft0 p i mv) := rfl
      have HE9 : Hid (ints (p.take i ++ p.drop (i + 1)) ++ ints mv = ints (aft0 p i mv)) := (List.map_append (f := Value.int .i64)).symm
      generalize p.take i ++ p.drop (i + 1) = r at *
      have hr6 := h'.below q6 hB
      have hm6 := hr6.len
      have hcm := hr6.max
      have hz6 := q6.size
      clear e0 e1 ho5 hb5 hg5 hb6 hg6 hrd
      go_wp2_with (first
        | (at_builtin; go_loud (refine wpList_append_rd rfl _ _ 22 3 (.int .i64 0) 8 rfl Try.underlying22 infoInt rfl (by omega) w.heap.size (.slice A6 (p.length - 1) c6) (ints r) rfl ho6 B A' mv.length c' (ints mv) rfl (by rw [ints_len]) hr6 (fun u hu => ints_one hu) (by rw [ints_len, ints_len, hlo.out]; omega) (by omega) ?_; intro A8 c8 w8 ho8 hb8 hg8; rw [ints_len, ints_len, ← List.length_append] at ho8 ⊢; have e9 : ints r ++ ints mv = ints (aft0 p i mv) := HE9.out; rw [e9] at ho8; rw [HAFT.out] at ho8 ⊢; have g8 := q6.trans hb8; have hz8 := g8.size))
        | (go_at_call 56; (with_reducible refine (sortS_any _ _ (aft0 p i mv) _ _ (Nat.le_refl _) ((own_ints.2 ho8).rd rfl) HLEN.out).mono ?_); rintro e w9 ⟨A9, c9, rfl, ho9, hb9⟩; rw [HNZ.out] at ho9 ⊢))
      go_ret
      exact ⟨A9, c9, rfl, (own_ints.2 ((own_ints.1 ho9).le hz8)), g8.trans (hb9.mono hz8)⟩
end Go.Proofs.Ytdckgplmkigjcaa
