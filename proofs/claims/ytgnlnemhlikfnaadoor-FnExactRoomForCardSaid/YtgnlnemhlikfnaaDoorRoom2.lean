/- RoomFor of the reference, and the law. Conditions: none. -/
import Derived.Test.YtgnlnemhlikfnaaDoorRoom
namespace Go.Proofs.YtgnlnemhlikfnaaDoor
open Go.RowKit
set_option linter.unusedVariables false


set_option maxHeartbeats 1600000 in
theorem roomS_any (A : Option Addr) (c : Nat) (ss : List ByteArray) (left : Bool) (w : World) (B : Nat) (hB : B ≤ w.heap.size) (h : Rd w B A c (scells ss)) (hsz : Hid (Short ss)) (hn : ss.length ≤ 1048576) :
    Calls Tryd.prog 47 #[.agg #[.slice A ss.length c], .bool left] w fun e w' => e = .returned (.tuple #[.int .i64 (resRoom ss left), .bool (boardB ss)]) ∧ Below w.heap.size w w' := by
  have h1 := h.len
  have h2 := h.max
  rw [scells_len] at h1
  go_enter Tryd.func47, Tryd.ntmps47
  go_wp2_with fail
  have kW : Blk (w.alloc (.cells #[.slice A ss.length c] 41)) w.heap.size 41 #[.slice A ss.length c] := Blk.new _ _ _
  have hzW : w.heap.size < (w.alloc (.cells #[.slice A ss.length c] 41)).heap.size := by simp
  have hAW : Below w.heap.size w (w.alloc (.cells #[.slice A ss.length c] 41)) := (Below.refl _ _).alloc (Nat.le_refl _) _
  have c0W : (w.alloc (.cells #[.slice A ss.length c] 41)).cell? ⟨w.heap.size, 0, none⟩ = some (.slice A ss.length c) := by simp [go_sem]
  generalize w.alloc (.cells #[.slice A ss.length c] 41) = W at *
  have hrW := h.below hAW hB
  refine (goodBoardS_any A c ss W B (by omega) hrW hsz).mono ?_; rintro e w1 ⟨rfl, hb1⟩
  have k1 := kW.below hb1 hzW
  have q0 : w1.cell? ⟨w.heap.size, 0, none⟩ = some (.slice A ss.length c) := k1.cell 0
  have hb := gtr hAW hb1
  clear c0W kW
  cases hg : boardB ss
  · have HT : Hid (resRoom ss left = 0) := by show _ = _; rw [resRoom, hg]; rfl
    go_wp2
    exact bodyPost_ret (v := .tuple #[.int .i64 0, .bool false]) (by simp [results, Tryd.results47, go_sem]) rfl ⟨by rw [HT.out, hg]; rfl, hb⟩
  · cases left
    · have HT : Hid (resRoom ss false = roomS ss) := by show _ = _; rw [resRoom, if_pos hg]; rfl
      have HBP := Lib.hid (boardB_of hg)
      have hrd := (hrW.below hb1 (by omega)).more (B' := w1.heap.size) (by have := hb.size; omega)
      have hl0 : 0 < ss.length := HBP.out.1.1
      have hl8 : ss.length ≤ 8 := HBP.out.1.2
      clear hrW h hsz
      generalize hrs : ss = rs at *

      have hz8 : Hid (∀ j, j < rs.length → (gs rs j).size ≤ 8) := fun j hj => by rw [(HBP.out.2.2 j hj).1]; exact HBP.out.2.1.2
      have HSH : Hid (Short rs) := fun j hj => by have := hz8.out j hj; omega
      go_wp2_with fail
      refine (cells_any A c rs w1 _ (Nat.le_refl _) hrd HSH (by omega)).mono ?_; rintro e w3 ⟨A4, c4, rfl, ho4c, hb4⟩
      have hbV' := gtr hb hb4
      have HROW : Hid (∀ i, i < rs.length → gb (brows rs) i = brow (gs rs i)) := fun i hi => by simp [gb, brows, gs, hi]
      have hbl : (brows rs).length = rs.length := by simp [brows]
      have hcr := ho4c.rd
      obtain ⟨b, o, rfl, hbB, hc⟩ := hcr.at (j := 0) (by rw [hbl]; exact hl0)
      have HC : Hid (∀ i, i < rs.length → ∃ Ai ci, w3.cell? ⟨b, o + i, none⟩ = some (.slice Ai (gs rs i).size ci) ∧ (gs rs i).size ≤ ci ∧ ci ≤ 9223372036854775807 ∧ Rd w3 w3.heap.size Ai ci (bools (brow (gs rs i)))) := by
        intro i hi
        obtain ⟨Ai, ci, k1, k2⟩ := hc i (by rw [hbl]; exact hi)
        rw [HROW.out i hi] at k1 k2
        have hl := k2.len
        rw [brow_len] at k1
        rw [bools_len, brow_len] at hl
        exact ⟨Ai, ci, k1, hl, k2.max, k2⟩
      have hcl := hcr.len
      have hcl1 : rs.length ≤ c4 := by have := hcl.1; omega
      have hcl2 := hcl.2
      clear hc hcr ho4c hcl hrd hbl
      have HA : Hid (∀ j, j < rs.length → allIn [46, 35] (gs rs j) = true) := fun j hj => (HBP.out.2.2 j hj).2
      go_wp2
      go_loop [7, 8, 9, 10] (fun n i _ _ => ∃ k : Nat, i = .int .i64 k ∧ k ≤ rs.length ∧ n = .int .i64 (roomS (rs.take k))) (fun _ i _ _ => rs.length - (intOf i).toNat)
      case atStart => exact ⟨0, rfl, by omega, rfl⟩
      case round =>
        obtain ⟨k, rfl, hk, rfl⟩ := hrel
        have hrl := roomS_le rs hz8.out k hk
        by_cases hlt : k < rs.length
        · obtain ⟨Ai, ci, qk, hi1, hi2, rk⟩ := HC.out k hlt
          have hzk := hz8.out k hlt
          have HAK := Lib.hid (HA.out k hlt)
          have HST := Lib.hid (roomS_step rs k hlt)
          generalize gs rs k = r at qk hi1 rk hzk HAK HST
          go_wp2
          go_loop [7, 9, 10] (fun n u j => ∃ m : Nat, j = .int .i64 m ∧ m ≤ r.size ∧ n = .int .i64 ((roomS (rs.take k) : Int) + (rn (r.data.toList.take m) : Int)) ∧ u = .int .i64 (rr (r.data.toList.take m))) (fun _ _ j => r.size - (intOf j).toNat)
          case atStart => exact ⟨0, rfl, by omega, by simp [rn, room, spl], by simp [rr, spl]⟩
          case round =>
            obtain ⟨m, rfl, hm, rfl, rfl⟩ := hrel
            have hrn := rn_le (r.data.toList.take m)
            rw [List.length_take] at hrn
            have hrn8 : rn (r.data.toList.take m) ≤ 8 := by omega
            clear hrn
            by_cases hml : m < r.size
            · obtain ⟨b4, o4, rfl, hb4', hc4⟩ := rk.at (j := m) (by rw [bools_len, brow_len]; exact hml)
              have q4 := hc4 m _ (bools_at _ m (by rw [brow_len]; exact hml))
              clear hc4
              have hbit : (brow r).getD m false = (r[m] == 46) := by
                have hl : m < r.data.toList.length := by rw [data_len]; exact hml
                rw [List.getD_eq_getElem?_getD, brow, List.getElem?_map, List.getElem?_eq_getElem hl]; rfl
              have hds := data_step r m hml
              have h3 := allIn_true.1 HAK.out m hml
              simp at h3
              rcases h3 with h3 | h3
              · rw [h3] at hbit hds
                rw [hbit] at q4
                obtain ⟨hn1, hn2⟩ := rn_dot (r.data.toList.take m)
                rw [← hds] at hn1 hn2
                have HN1 := Lib.hid hn1; have HN2 := Lib.hid hn2
                have hr1 := rr_le (r.data.toList.take m)
                generalize hρ : rr (r.data.toList.take m) = ρ at *
                clear hds hn1 hn2 hbit h3
                obtain rfl | rfl : ρ = 0 ∨ ρ = 1 := by omega
                all_goals (
                  go_wp2
                  go_round
                  case rel => exact ⟨m + 1, by go_num, by omega, by rw [HN1.out]; go_num, by rw [HN2.out]; rfl⟩
                  case measure => simp [intOf]; omega)
              · rw [h3] at hbit hds
                rw [hbit] at q4
                obtain ⟨hn1, hn2⟩ := rn_wall (r.data.toList.take m)
                rw [← hds] at hn1 hn2
                have HN1 := Lib.hid hn1; have HN2 := Lib.hid hn2
                have hr1 := rr_le (r.data.toList.take m)
                clear hds hn1 hn2 hbit h3
                go_wp2
                go_round
                case rel => exact ⟨m + 1, by go_num, by omega, by rw [HN1.out], by rw [HN2.out]; rfl⟩
                case measure => simp [intOf]; omega
            · obtain rfl : m = r.size := by omega
              have HE : Hid ((roomS (rs.take k) : Int) + (rn (r.data.toList.take r.size) : Int) = ((roomS (rs.take (k + 1)) : Nat) : Int)) := by
                show _ = _
                rw [show r.data.toList.take r.size = r.data.toList from List.take_of_length_le (by rw [data_len]; exact Nat.le_refl _), HST.out]
                show (roomS (rs.take k) : Int) + (roomR r : Int) = _
                omega
              go_wp2
              go_round
              case rel => exact ⟨k + 1, by go_num, by omega, by rw [HE.out]⟩
              case measure => simp [intOf]; omega
        · obtain rfl : k = rs.length := by omega
          have HE : Hid (roomS (rs.take rs.length) = roomS rs) := by show _ = _; rw [List.take_length]
          go_wp2
          exact bodyPost_ret (v := .tuple #[.int .i64 (roomS rs), .bool true]) (by simp [results, Tryd.results47, go_sem]) rfl ⟨by first | rw [HT.out] | rw [hrs, HT.out] | rw [HT.out, hg] | rw [hrs, HT.out, hg], hbV'⟩

    · have HT : Hid (resRoom ss true = roomS (resTurnBoard ss)) := by show _ = _; rw [resRoom, if_pos hg]; rfl
      have HBP := Lib.hid (boardP_turn hg)
      go_wp2_with fail
      refine (TurnBoardS_any A c ss w1 B (by have := hb.size; omega) (hrW.below hb1 (by omega)) hsz hn).mono ?_; rintro e w2 ⟨A3, c3, rfl, ho3, hb2⟩
      obtain ⟨rs, hrs⟩ : ∃ rs, rs = resTurnBoard ss := ⟨_, rfl⟩
      rw [← hrs] at ho3 HBP HT ⊢
      have k2 := k1.below hb2 k1.lt
      have z2 := k2.frozen 0
      have y2 : w2.cell? ⟨w.heap.size, 0, none⟩ = some (.slice A ss.length c) := k2.cell 0
      have hbs := gtr hb hb2
      have hwz : w.heap.size < w1.heap.size := k1.lt
      have ho4 := ho3.far' (p := ⟨w.heap.size, 0, none⟩) (u := .slice A3 rs.length c3) (by dsimp only; omega)
      have k4 := k2.set 0 (.slice A3 rs.length c3)
      have hbV : Below w.heap.size w (w2.setCell ⟨w.heap.size, 0, none⟩ (.slice A3 rs.length c3)) := hbs.setCell (by dsimp only; omega) _
      have hl0 : 0 < rs.length := HBP.out.1.1
      have hl8 : rs.length ≤ 8 := HBP.out.1.2
      clear hrW h hsz hrs h1 h2 q0
      have hrd := ho4.rd
      have h1 := hrd.len
      have h2 := hrd.max
      rw [scells_len] at h1
      have q0 : (w2.setCell ⟨w.heap.size, 0, none⟩ (.slice A3 rs.length c3)).cell? ⟨w.heap.size, 0, none⟩ = some (.slice A3 rs.length c3) := k4.cell 0
      clear ho3 k1 k2

      have hz8 : Hid (∀ j, j < rs.length → (gs rs j).size ≤ 8) := fun j hj => by rw [(HBP.out.2.2 j hj).1]; exact HBP.out.2.1.2
      have HSH : Hid (Short rs) := fun j hj => by have := hz8.out j hj; omega
      go_wp2_with fail
      refine (cells_any A3 c3 rs (w2.setCell ⟨w.heap.size, 0, none⟩ (.slice A3 rs.length c3)) _ (Nat.le_refl _) hrd HSH (by omega)).mono ?_; rintro e w3 ⟨A4, c4, rfl, ho4c, hb4⟩
      have hbV' := gtr hbV hb4
      have HROW : Hid (∀ i, i < rs.length → gb (brows rs) i = brow (gs rs i)) := fun i hi => by simp [gb, brows, gs, hi]
      have hbl : (brows rs).length = rs.length := by simp [brows]
      have hcr := ho4c.rd
      obtain ⟨b, o, rfl, hbB, hc⟩ := hcr.at (j := 0) (by rw [hbl]; exact hl0)
      have HC : Hid (∀ i, i < rs.length → ∃ Ai ci, w3.cell? ⟨b, o + i, none⟩ = some (.slice Ai (gs rs i).size ci) ∧ (gs rs i).size ≤ ci ∧ ci ≤ 9223372036854775807 ∧ Rd w3 w3.heap.size Ai ci (bools (brow (gs rs i)))) := by
        intro i hi
        obtain ⟨Ai, ci, k1, k2⟩ := hc i (by rw [hbl]; exact hi)
        rw [HROW.out i hi] at k1 k2
        have hl := k2.len
        rw [brow_len] at k1
        rw [bools_len, brow_len] at hl
        exact ⟨Ai, ci, k1, hl, k2.max, k2⟩
      have hcl := hcr.len
      have hcl1 : rs.length ≤ c4 := by have := hcl.1; omega
      have hcl2 := hcl.2
      clear hc hcr ho4c hcl hrd hbl ho4
      have HA : Hid (∀ j, j < rs.length → allIn [46, 35] (gs rs j) = true) := fun j hj => (HBP.out.2.2 j hj).2
      go_wp2
      go_loop [7, 8, 9, 10] (fun n i _ _ => ∃ k : Nat, i = .int .i64 k ∧ k ≤ rs.length ∧ n = .int .i64 (roomS (rs.take k))) (fun _ i _ _ => rs.length - (intOf i).toNat)
      case atStart => exact ⟨0, rfl, by omega, rfl⟩
      case round =>
        obtain ⟨k, rfl, hk, rfl⟩ := hrel
        have hrl := roomS_le rs hz8.out k hk
        by_cases hlt : k < rs.length
        · obtain ⟨Ai, ci, qk, hi1, hi2, rk⟩ := HC.out k hlt
          have hzk := hz8.out k hlt
          have HAK := Lib.hid (HA.out k hlt)
          have HST := Lib.hid (roomS_step rs k hlt)
          generalize gs rs k = r at qk hi1 rk hzk HAK HST
          go_wp2
          go_loop [7, 9, 10] (fun n u j => ∃ m : Nat, j = .int .i64 m ∧ m ≤ r.size ∧ n = .int .i64 ((roomS (rs.take k) : Int) + (rn (r.data.toList.take m) : Int)) ∧ u = .int .i64 (rr (r.data.toList.take m))) (fun _ _ j => r.size - (intOf j).toNat)
          case atStart => exact ⟨0, rfl, by omega, by simp [rn, room, spl], by simp [rr, spl]⟩
          case round =>
            obtain ⟨m, rfl, hm, rfl, rfl⟩ := hrel
            have hrn := rn_le (r.data.toList.take m)
            rw [List.length_take] at hrn
            have hrn8 : rn (r.data.toList.take m) ≤ 8 := by omega
            clear hrn
            by_cases hml : m < r.size
            · obtain ⟨b4, o4, rfl, hb4', hc4⟩ := rk.at (j := m) (by rw [bools_len, brow_len]; exact hml)
              have q4 := hc4 m _ (bools_at _ m (by rw [brow_len]; exact hml))
              clear hc4
              have hbit : (brow r).getD m false = (r[m] == 46) := by
                have hl : m < r.data.toList.length := by rw [data_len]; exact hml
                rw [List.getD_eq_getElem?_getD, brow, List.getElem?_map, List.getElem?_eq_getElem hl]; rfl
              have hds := data_step r m hml
              have h3 := allIn_true.1 HAK.out m hml
              simp at h3
              rcases h3 with h3 | h3
              · rw [h3] at hbit hds
                rw [hbit] at q4
                obtain ⟨hn1, hn2⟩ := rn_dot (r.data.toList.take m)
                rw [← hds] at hn1 hn2
                have HN1 := Lib.hid hn1; have HN2 := Lib.hid hn2
                have hr1 := rr_le (r.data.toList.take m)
                generalize hρ : rr (r.data.toList.take m) = ρ at *
                clear hds hn1 hn2 hbit h3
                obtain rfl | rfl : ρ = 0 ∨ ρ = 1 := by omega
                all_goals (
                  go_wp2
                  go_round
                  case rel => exact ⟨m + 1, by go_num, by omega, by rw [HN1.out]; go_num, by rw [HN2.out]; rfl⟩
                  case measure => simp [intOf]; omega)
              · rw [h3] at hbit hds
                rw [hbit] at q4
                obtain ⟨hn1, hn2⟩ := rn_wall (r.data.toList.take m)
                rw [← hds] at hn1 hn2
                have HN1 := Lib.hid hn1; have HN2 := Lib.hid hn2
                have hr1 := rr_le (r.data.toList.take m)
                clear hds hn1 hn2 hbit h3
                go_wp2
                go_round
                case rel => exact ⟨m + 1, by go_num, by omega, by rw [HN1.out], by rw [HN2.out]; rfl⟩
                case measure => simp [intOf]; omega
            · obtain rfl : m = r.size := by omega
              have HE : Hid ((roomS (rs.take k) : Int) + (rn (r.data.toList.take r.size) : Int) = ((roomS (rs.take (k + 1)) : Nat) : Int)) := by
                show _ = _
                rw [show r.data.toList.take r.size = r.data.toList from List.take_of_length_le (by rw [data_len]; exact Nat.le_refl _), HST.out]
                show (roomS (rs.take k) : Int) + (roomR r : Int) = _
                omega
              go_wp2
              go_round
              case rel => exact ⟨k + 1, by go_num, by omega, by rw [HE.out]⟩
              case measure => simp [intOf]; omega
        · obtain rfl : k = rs.length := by omega
          have HE : Hid (roomS (rs.take rs.length) = roomS rs) := by show _ = _; rw [List.take_length]
          go_wp2
          exact bodyPost_ret (v := .tuple #[.int .i64 (roomS rs), .bool true]) (by simp [results, Tryd.results47, go_sem]) rfl ⟨by first | rw [HT.out] | rw [hrs, HT.out] | rw [HT.out, hg] | rw [hrs, HT.out, hg], hbV'⟩



set_option maxHeartbeats 3200000 in
theorem lawRoomFor (A : Option Addr) (n c : Nat) (zs : List ByteArray) (left : Bool) (w : World) (h : IsStrs w A n c zs) :
    Calls Tryd.prog 11 #[.agg #[.slice A n c], .bool left] w fun e w' => e = .returned (.bool true) ∧ Below w.heap.size w w' := by
  obtain ⟨hr, hl, hm⟩ := h.rd
  clear h
  generalize zs.take n = ss at hr hl hm
  subst hl
  have h1 := hr.len
  have h2 := hr.max
  rw [scells_len] at h1
  have HM := Lib.hid hm; clear hm
  go_enter Tryd.func11, Tryd.ntmps11
  go_wp2_with fail
  have hzW : w.heap.size < (w.alloc (.cells #[.slice A ss.length c] 39)).heap.size := by simp
  have hAW : Below w.heap.size w (w.alloc (.cells #[.slice A ss.length c] 39)) := (Below.refl _ _).alloc (Nat.le_refl _) _
  have c0W : (w.alloc (.cells #[.slice A ss.length c] 39)).cell? ⟨w.heap.size, 0, none⟩ = some (.slice A ss.length c) := by simp [go_sem]
  generalize w.alloc (.cells #[.slice A ss.length c] 39) = W at *
  have hrW := hr.below hAW (Nat.le_refl _)
  have hle : w.heap.size ≤ W.heap.size := hAW.size
  refine (szBoard_any A c ss W w.heap.size hle hrW HM).mono ?_; rintro e w1 ⟨⟨m, rfl, hmm⟩, hb1⟩
  have g1 : Below W.heap.size W w1 := hb1
  have hs0 := fun w' (hg : Below W.heap.size W w') => (hg.cell (p := ⟨w.heap.size, 0, none⟩) hzW).trans c0W
  have HS0 := Lib.hid hs0; clear hs0 c0W
  have u10 := HS0.out _ g1
  have HMM := Lib.hid hmm; clear hmm
  by_cases hmn : m < 0
  · go_wp2
    go_ret
    exact ⟨rfl, gtr hAW hb1⟩
  · have hsm : ss.length ≤ 1048576 := by have := HMM.out; omega
    have HSH : Hid (Short ss) := by have := HMM.out; rcases this with h | h; exact absurd h hmn; exact h.2.2
    clear HMM
    go_wp2_with fail
    refine (toBoard_any A c ss w1 w.heap.size (by have := hb1.size; omega) (hrW.below g1 hle) hsm).mono ?_; rintro e w2 ⟨A2, c2, rfl, ho2, hb2⟩
    have g2 := gtr g1 hb2
    have u20 := HS0.out _ g2
    go_wp2_with fail
    refine (roomS_any A2 c2 ss left w2 _ (Nat.le_refl _) ho2.rd HSH hsm).mono ?_; rintro e w3 ⟨rfl, hb3⟩
    have g3 := gtr g2 hb3
    have u30 := HS0.out _ g3
    clear u10 u20
    go_wp2_with fail
    refine (toBoard_any A c ss w3 w.heap.size (by have := g3.size; omega) (hrW.below g3 hle) hsm).mono ?_; rintro e w4 ⟨A4, c4, rfl, ho4, hb4⟩
    have g4 := gtr g3 hb4
    go_wp2_with fail
    have hzV : w4.heap.size < (w4.alloc (.cells #[.slice A4 ss.length c4] 41)).heap.size := by simp
    have hAV : Below w4.heap.size w4 (w4.alloc (.cells #[.slice A4 ss.length c4] 41)) := (Below.refl _ _).alloc (Nat.le_refl _) _
    have c0V : (w4.alloc (.cells #[.slice A4 ss.length c4] 41)).cell? ⟨w4.heap.size, 0, none⟩ = some (.slice A4 ss.length c4) := by simp [go_sem]
    generalize w4.alloc (.cells #[.slice A4 ss.length c4] 41) = V at *
    have g5 := gtr g4 hAV
    have ho5 := ho4.below hAV
    refine (roomI_any A4 c4 ss left V _ (Nat.le_refl _) ho5.rd HSH hsm).mono ?_; rintro e w6 ⟨rfl, hb6⟩
    have g6 := gtr g5 hb6
    have ho6 := ho5.below hb6
    have hs0 := fun w' (hg : Below V.heap.size V w') => (hg.cell (p := ⟨w4.heap.size, 0, none⟩) hzV).trans c0V
    have HV0 := Lib.hid hs0; clear hs0 c0V u30
    have v0 := HS0.out _ g6
    have x0 := HV0.out _ hb6
    have hz6 := g6.size
    go_wp2
    go_region_held3 (fun w' => w'.cell? ⟨w.heap.size, 0, none⟩ = some (.slice A ss.length c) ∧ w'.cell? ⟨w4.heap.size, 0, none⟩ = some (.slice A4 ss.length c4)) (go_keep)
      (first
        | (go_at_call 24; refine (toBoard_any A c ss w6.drew w.heap.size (by show _ ≤ w6.heap.size; omega) (hrW.below (gtr g6 (gdrew (a := w6))) hle) hsm).mono ?_; rintro e w7 ⟨A7, c7, rfl, ho7, hb7⟩; have g7 := gtr (gdrew (a := w6)) hb7; have s0 := HS0.out _ (gtr g6 g7); have s2 := HV0.out _ (gtr hb6 g7))
        | (go_at_call 26; refine (eqBoard_same A4 A7 c4 c7 ss w7 w7.heap.size (Nat.le_refl _) ((ho6.below g7).rd) ho7.rd).mono ?_; rintro e w8 ⟨rfl, hb8⟩; have g8 := gtr g7 hb8; have t0 := HS0.out _ (gtr g6 g8); have t2 := HV0.out _ (gtr hb6 g8)))
    go_wp2
    go_ret
    exact ⟨rfl, gtr hAW (gtr g6 g8)⟩

end Go.Proofs.YtgnlnemhlikfnaaDoor
