/- The text of a board: the program's join and the reference's loop, by contracts. Conditions: none. -/
import Derived.Test.YtjhfnjgeikeajaaDoorBoard2
import Derived.Test.YtjhfnjgeikeajaaDoorShelfJ
import Derived.Shelf.Strings.OnBuilder
namespace Go.Proofs.YtjhfnjgeikeajaaDoor
open Go.RowKit
set_option linter.unusedVariables false

/-- The rows of a board, joined by a slash. -/
def jl (ss : List ByteArray) : List UInt8 := Lib.join (ss.map (·.data.toList)) (⟨#[47]⟩ : ByteArray).data.toList
theorem jl_step (ss : List ByteArray) (k : Nat) (h : k < ss.length) : jl (ss.take (k + 1)) = if k = 0 then (gs ss k).data.toList else jl (ss.take k) ++ [47] ++ (gs ss k).data.toList := by
  cases ss with
  | nil => simp at h
  | cons x r =>
    cases k with
    | zero => simp [jl, gs, Lib.join_one]
    | succ k =>
      have h' : k < r.length := by simpa using h
      have e : gs (x :: r) (k + 1) = r[k] := by simp [gs, h']
      have hr : (r.map (·.data.toList))[k]? = some r[k].data.toList := by rw [List.getElem?_map, List.getElem?_eq_getElem h']; rfl
      simp only [jl, List.take_succ_cons, List.map_cons, Lib.join_cons, e, List.map_take]
      rw [Lib.joinTail_take_succ _ _ k _ hr]
      simp
theorem jl_len (ss : List ByteArray) (h : ∀ j, j < ss.length → (gs ss j).size ≤ 8) (k : Nat) (hk : k ≤ ss.length) : (jl (ss.take k)).length ≤ 9 * k := by
  induction k with
  | zero => simp [jl, Lib.join_nil]
  | succ k ih =>
    have h1 := h k hk
    have h2 := ih (by omega)
    rw [← data_len] at h1
    rw [jl_step ss k hk]
    split
    · omega
    · rw [List.length_append, List.length_append, List.length_singleton]; omega

set_option maxHeartbeats 1600000 in
theorem textS_any (A : Option Addr) (c : Nat) (ss : List ByteArray) (w : World) (B : Nat) (hB : B ≤ w.heap.size) (h : Rd w B A c (scells ss)) (hl0 : 0 < ss.length) (hl8 : ss.length ≤ 8) (hz : Hid (∀ j, j < ss.length → (gs ss j).size ≤ 8)) :
    Calls Tryd.prog 72 #[.agg #[.slice A ss.length c]] w fun e w' => e = .returned (.string ⟨(jl ss).toArray⟩) ∧ Below w.heap.size w w' := by
  have h1 := h.len
  have h2 := h.max
  rw [scells_len] at h1
  obtain ⟨b, o, rfl, hbB, hc⟩ := h.at (j := 0) (by rw [scells_len]; exact hl0)
  have HC0 : Hid (∀ w', Below w.heap.size w w' → ∀ i, i < ss.length → w'.cell? ⟨b, o + i, none⟩ = some (.string (gs ss i))) := fun w' hb i hi => (hb.cell (p := ⟨b, o + i, none⟩) (by show b < _; omega)).trans (hc i _ (gs_at ss i hi))
  clear hc h
  go_enter Tryd.func72, Tryd.ntmps72
  go_wp2
  have hzW : w.heap.size < (w.alloc (.cells #[.slice (some ⟨b, o, none⟩) ss.length c] 31)).heap.size := by simp
  have hAW : Below w.heap.size w (w.alloc (.cells #[.slice (some ⟨b, o, none⟩) ss.length c] 31)) := (Below.refl _ _).alloc (Nat.le_refl _) _
  have c0W : (w.alloc (.cells #[.slice (some ⟨b, o, none⟩) ss.length c] 31)).cell? ⟨w.heap.size, 0, none⟩ = some (.slice (some ⟨b, o, none⟩) ss.length c) := by simp [go_sem]
  generalize w.alloc (.cells #[.slice (some ⟨b, o, none⟩) ss.length c] 31) = W at *
  have HC := Lib.hid (HC0.out W hAW)
  go_loop [3, 4] (fun x y => ∃ (k : Nat) (s : ByteArray), y = .int .i64 k ∧ k ≤ ss.length ∧ x = .string s ∧ s.data.toList = jl (ss.take k)) (fun _ y => ss.length - (intOf y).toNat)
  case atStart => exact ⟨0, _, rfl, by omega, rfl, rfl⟩
  case round =>
    obtain ⟨k, s, rfl, hk, rfl, hs⟩ := hrel
    have hsz := jl_len ss hz.out k hk
    rw [← hs, data_len] at hsz
    have HS := Lib.hid hs; clear hs
    by_cases hlt : k < ss.length
    · have q := HC.out k hlt
      have hzk := hz.out k hlt
      have HST := Lib.hid (jl_step ss k hlt)
      by_cases h0 : k = 0
      · obtain ⟨s', hs'⟩ : ∃ s', s' = s ++ gs ss k := ⟨_, rfl⟩
        have hadd := fun w => run_string_add_sum (P := Tryd.prog) w s (gs ss k) (by omega)
        rw [← hs'] at hadd
        have HS' : Hid (s'.data.toList = jl (ss.take (k + 1))) := by
          show _ = _
          rw [hs', data_append, HS.out, HST.out, if_pos h0, h0]; rfl
        have ht : ¬ (0 : Int) < (k : Int) := by omega
        clear hs' h0
        go_wp2
        go_round
        case rel => exact ⟨k + 1, s', by go_num, by omega, rfl, HS'.out⟩
        case measure => simp [intOf]; omega
      · obtain ⟨s1, hs1⟩ : ∃ s1, s1 = s ++ (⟨#[47]⟩ : ByteArray) := ⟨_, rfl⟩
        obtain ⟨s', hs'⟩ : ∃ s', s' = s1 ++ gs ss k := ⟨_, rfl⟩
        have hadd1 := fun w => run_string_add_sum (P := Tryd.prog) w s ⟨#[47]⟩ (by show s.size + 1 ≤ _; omega)
        have hz1 : s1.size = s.size + 1 := by rw [hs1]; simp [ByteArray.size_append]; rfl
        have hadd := fun w => run_string_add_sum (P := Tryd.prog) w s1 (gs ss k) (by omega)
        rw [← hs'] at hadd
        rw [← hs1] at hadd1
        have HS' : Hid (s'.data.toList = jl (ss.take (k + 1))) := by
          show _ = _
          rw [hs', data_append, hs1, data_append, HS.out, HST.out, if_neg h0]
        have ht : (0 : Int) < (k : Int) := by omega
        clear hs' hs1 h0
        go_wp2
        go_round
        case rel => exact ⟨k + 1, s', by go_num, by omega, rfl, HS'.out⟩
        case measure => simp [intOf]; omega
    · obtain rfl : k = ss.length := by omega
      have HE : Hid (s = ⟨(jl ss).toArray⟩) := str_of s (by rw [HS.out, List.take_length])
      go_wp2
      go_ret
      exact ⟨by rw [HE.out]; rfl, hAW⟩

theorem builderX : Builder.Extra Tryd.prog Tryd.lays156_ren where
  sizeBuilder := by kernel_rfl
  liesBuilder := by kernel_rfl
  t5 := Tryd.underlying5
  a5 := Tryd.isAgg5
  z5 := Tryd.sizeOf5
  v5 := Tryd.zeroValue5
  infoByte := by kernel_rfl
  cellsByte := by kernel_rfl
  sizeByte := by kernel_rfl
  neB5 := by decide

set_option maxHeartbeats 1600000 in
theorem textI_any (A : Option Addr) (c : Nat) (ss : List ByteArray) (w : World) (B : Nat) (hB : B ≤ w.heap.size) (h : Rd w B A c (scells ss)) (hl0 : 0 < ss.length) (hl8 : ss.length ≤ 8) (hz : Hid (∀ j, j < ss.length → (gs ss j).size ≤ 8)) :
    Calls Tryd.prog 73 #[.agg #[.slice A ss.length c]] w fun e w' => e = .returned (.string ⟨(jl ss).toArray⟩) ∧ Below w.heap.size w w' := by
  have h1 := h.len
  have h2 := h.max
  rw [scells_len] at h1
  obtain ⟨b, o, rfl, hbB, hc⟩ := h.at (j := 0) (by rw [scells_len]; exact hl0)
  have HC0 : Hid (∀ w', Below w.heap.size w w' → ∀ i, i < ss.length → w'.cell? ⟨b, o + i, none⟩ = some (.string (gs ss i))) := fun w' hb i hi => (hb.cell (p := ⟨b, o + i, none⟩) (by show b < _; omega)).trans (hc i _ (gs_at ss i hi))
  clear hc h
  have hj := jl_len ss hz.out ss.length (Nat.le_refl _)
  rw [List.take_length] at hj
  go_enter Tryd.func73, Tryd.ntmps73
  go_wp2_with fail
  have hzW : w.heap.size < (w.alloc (.cells #[.slice (some ⟨b, o, none⟩) ss.length c] 31)).heap.size := by simp
  have hAW : Below w.heap.size w (w.alloc (.cells #[.slice (some ⟨b, o, none⟩) ss.length c] 31)) := (Below.refl _ _).alloc (Nat.le_refl _) _
  have c0W : (w.alloc (.cells #[.slice (some ⟨b, o, none⟩) ss.length c] 31)).cell? ⟨w.heap.size, 0, none⟩ = some (.slice (some ⟨b, o, none⟩) ss.length c) := by simp [go_sem]
  generalize w.alloc (.cells #[.slice (some ⟨b, o, none⟩) ss.length c] 31) = W at *
  have hJ : Calls Tryd.prog 84 #[.slice (some ⟨b, o, none⟩) ss.length c, .string ⟨#[47]⟩] W fun e w' => e = .returned (.string ⟨(jl ss).toArray⟩) ∧ Below W.heap.size W w' :=
    Any.strings_Join Tryd.lays156 builderX b o c ss ⟨#[47]⟩ W (fun j x hx => by
      have hj := (List.getElem?_eq_some_iff.1 hx)
      obtain ⟨hj, hx⟩ := hj
      rw [HC0.out W hAW j hj, gs_lt hj, hx]) (by have := hAW.size; omega) (by omega) h1 (by show (jl ss).length ≤ _; omega)
  refine hJ.mono ?_; rintro e w1 ⟨rfl, hb1⟩
  go_wp2
  go_ret
  exact ⟨rfl, gtr hAW hb1⟩

def resBT (ss : List ByteArray) : ByteArray := if boardB ss = true then ⟨(jl ss).toArray⟩ else ⟨#[]⟩

set_option maxHeartbeats 1600000 in
theorem boardTextI_any (A : Option Addr) (c : Nat) (ss : List ByteArray) (w : World) (B : Nat) (hB : B ≤ w.heap.size) (h : Rd w B A c (scells ss)) (hsz : Hid (Short ss)) :
    Calls Tryd.prog 44 #[.agg #[.slice A ss.length c]] w fun e w' => e = .returned (.tuple #[.string (resBT ss), .bool (boardB ss)]) ∧ Below w.heap.size w w' := by
  have h1 := h.len
  have h2 := h.max
  rw [scells_len] at h1
  go_enter Tryd.func44, Tryd.ntmps44
  go_wp2_with fail
  have kW : Blk (w.alloc (.cells #[.slice A ss.length c] 31)) w.heap.size 31 #[.slice A ss.length c] := Blk.new _ _ _
  have hzW : w.heap.size < (w.alloc (.cells #[.slice A ss.length c] 31)).heap.size := by simp
  have hAW : Below w.heap.size w (w.alloc (.cells #[.slice A ss.length c] 31)) := (Below.refl _ _).alloc (Nat.le_refl _) _
  have c0W : (w.alloc (.cells #[.slice A ss.length c] 31)).cell? ⟨w.heap.size, 0, none⟩ = some (.slice A ss.length c) := by simp [go_sem]
  generalize w.alloc (.cells #[.slice A ss.length c] 31) = W at *
  have hrW := h.below hAW hB
  refine (goodBoardI_any A c ss W B (by omega) hrW hsz).mono ?_; rintro e w1 ⟨rfl, hb1⟩
  have q0 := (kW.below hb1 hzW).cell 0
  have hb := gtr hAW hb1
  cases hg : boardB ss
  · have HT : Hid (resBT ss = ⟨#[]⟩) := by show _ = _; rw [resBT, hg]; rfl
    go_wp2
    exact bodyPost_ret (v := .tuple #[.string ⟨#[]⟩, .bool false]) (by simp [results, Tryd.results44, go_sem]) rfl ⟨by rw [HT.out, hg], hb⟩
  · have HT : Hid (resBT ss = ⟨(jl ss).toArray⟩) := by show _ = _; rw [resBT, if_pos hg]
    have HBP := Lib.hid (boardB_of hg)
    have HZ : Hid (∀ j, j < ss.length → (gs ss j).size ≤ 8) := fun j hj => by rw [(HBP.out.2.2 j hj).1]; exact HBP.out.2.1.2
    go_wp2_with fail
    refine (textI_any A c ss w1 B (by have := hb.size; omega) (h.below hb hB) HBP.out.1.1 HBP.out.1.2 HZ).mono ?_; rintro e w2 ⟨rfl, hb2⟩
    go_wp2
    exact bodyPost_ret (v := .tuple #[.string ⟨(jl ss).toArray⟩, .bool true]) (by simp [results, Tryd.results44, go_sem]) rfl ⟨by rw [HT.out, hg], gtr hb hb2⟩

set_option maxHeartbeats 1600000 in
theorem boardTextS_any (A : Option Addr) (c : Nat) (ss : List ByteArray) (w : World) (B : Nat) (hB : B ≤ w.heap.size) (h : Rd w B A c (scells ss)) (hsz : Hid (Short ss)) :
    Calls Tryd.prog 43 #[.agg #[.slice A ss.length c]] w fun e w' => e = .returned (.tuple #[.string (resBT ss), .bool (boardB ss)]) ∧ Below w.heap.size w w' := by
  have h1 := h.len
  have h2 := h.max
  rw [scells_len] at h1
  go_enter Tryd.func43, Tryd.ntmps43
  go_wp2_with fail
  have kW : Blk (w.alloc (.cells #[.slice A ss.length c] 31)) w.heap.size 31 #[.slice A ss.length c] := Blk.new _ _ _
  have hzW : w.heap.size < (w.alloc (.cells #[.slice A ss.length c] 31)).heap.size := by simp
  have hAW : Below w.heap.size w (w.alloc (.cells #[.slice A ss.length c] 31)) := (Below.refl _ _).alloc (Nat.le_refl _) _
  have c0W : (w.alloc (.cells #[.slice A ss.length c] 31)).cell? ⟨w.heap.size, 0, none⟩ = some (.slice A ss.length c) := by simp [go_sem]
  generalize w.alloc (.cells #[.slice A ss.length c] 31) = W at *
  have hrW := h.below hAW hB
  refine (goodBoardS_any A c ss W B (by omega) hrW hsz).mono ?_; rintro e w1 ⟨rfl, hb1⟩
  have q0 := (kW.below hb1 hzW).cell 0
  have hb := gtr hAW hb1
  cases hg : boardB ss
  · have HT : Hid (resBT ss = ⟨#[]⟩) := by show _ = _; rw [resBT, hg]; rfl
    go_wp2
    exact bodyPost_ret (v := .tuple #[.string ⟨#[]⟩, .bool false]) (by simp [results, Tryd.results43, go_sem]) rfl ⟨by rw [HT.out, hg], hb⟩
  · have HT : Hid (resBT ss = ⟨(jl ss).toArray⟩) := by show _ = _; rw [resBT, if_pos hg]
    have HBP := Lib.hid (boardB_of hg)
    have HZ : Hid (∀ j, j < ss.length → (gs ss j).size ≤ 8) := fun j hj => by rw [(HBP.out.2.2 j hj).1]; exact HBP.out.2.1.2
    go_wp2_with fail
    refine (textS_any A c ss w1 B (by have := hb.size; omega) (h.below hb hB) HBP.out.1.1 HBP.out.1.2 HZ).mono ?_; rintro e w2 ⟨rfl, hb2⟩
    go_wp2
    exact bodyPost_ret (v := .tuple #[.string ⟨(jl ss).toArray⟩, .bool true]) (by simp [results, Tryd.results43, go_sem]) rfl ⟨by rw [HT.out, hg], gtr hb hb2⟩

set_option maxHeartbeats 3200000 in
theorem lawBoardText (A : Option Addr) (n c : Nat) (zs : List ByteArray) (w : World) (h : IsStrs w A n c zs) :
    Calls Tryd.prog 12 #[.agg #[.slice A n c]] w fun e w' => e = .returned (.bool true) ∧ Below w.heap.size w w' := by
  obtain ⟨hr, hl, hm⟩ := h.rd
  clear h
  generalize zs.take n = ss at hr hl hm
  subst hl
  have h1 := hr.len
  have h2 := hr.max
  rw [scells_len] at h1
  have HM := Lib.hid hm; clear hm
  go_enter Tryd.func12, Tryd.ntmps12
  go_wp2_with fail
  have hzW : w.heap.size < (w.alloc (.cells #[.slice A ss.length c] 28)).heap.size := by simp
  have hAW : Below w.heap.size w (w.alloc (.cells #[.slice A ss.length c] 28)) := (Below.refl _ _).alloc (Nat.le_refl _) _
  have c0W : (w.alloc (.cells #[.slice A ss.length c] 28)).cell? ⟨w.heap.size, 0, none⟩ = some (.slice A ss.length c) := by simp [go_sem]
  generalize w.alloc (.cells #[.slice A ss.length c] 28) = W at *
  have hrW := hr.below hAW (Nat.le_refl _)
  have hle : w.heap.size ≤ W.heap.size := hAW.size
  refine (szBoard_any A c ss W w.heap.size hle hrW HM).mono ?_; rintro e w1 ⟨⟨m, rfl, hmm⟩, hb1⟩
  have g1 : Below W.heap.size W w1 := hb1
  have hs0 := fun w' (hg : Below W.heap.size W w') => (hg.cell (p := ⟨w.heap.size, 0, none⟩) hzW).trans c0W
  have HS0 := Lib.hid hs0; clear hs0 c0W
  have u10 := HS0.out _ g1
  have HMM := Lib.hid hmm; clear hmm
  by_cases hmn : m < 0
  · go_wp2
    go_ret
    exact ⟨rfl, gtr hAW hb1⟩
  · have hsm : ss.length ≤ 1048576 := by have := HMM.out; omega
    have HSH : Hid (Short ss) := by have := HMM.out; rcases this with h | h; exact absurd h hmn; exact h.2.2
    clear HMM
    go_wp2_with fail
    refine (toBoard_any A c ss w1 w.heap.size (by have := hb1.size; omega) (hrW.below g1 hle) hsm).mono ?_; rintro e w2 ⟨A2, c2, rfl, ho2, hb2⟩
    have g2 := gtr g1 hb2
    have u20 := HS0.out _ g2
    go_wp2_with fail
    refine (boardTextS_any A2 c2 ss w2 _ (Nat.le_refl _) ho2.rd HSH).mono ?_; rintro e w3 ⟨rfl, hb3⟩
    have g3 := gtr g2 hb3
    have u30 := HS0.out _ g3
    clear u10 u20
    go_wp2_with fail
    refine (toBoard_any A c ss w3 w.heap.size (by have := g3.size; omega) (hrW.below g3 hle) hsm).mono ?_; rintro e w4 ⟨A4, c4, rfl, ho4, hb4⟩
    have g4 := gtr g3 hb4
    go_wp2_with fail
    have hzV : w4.heap.size < (w4.alloc (.cells #[.slice A4 ss.length c4] 31)).heap.size := by simp
    have hAV : Below w4.heap.size w4 (w4.alloc (.cells #[.slice A4 ss.length c4] 31)) := (Below.refl _ _).alloc (Nat.le_refl _) _
    have c0V : (w4.alloc (.cells #[.slice A4 ss.length c4] 31)).cell? ⟨w4.heap.size, 0, none⟩ = some (.slice A4 ss.length c4) := by simp [go_sem]
    generalize w4.alloc (.cells #[.slice A4 ss.length c4] 31) = V at *
    have g5 := gtr g4 hAV
    have ho5 := ho4.below hAV
    refine (boardTextI_any A4 c4 ss V _ (Nat.le_refl _) ho5.rd HSH).mono ?_; rintro e w6 ⟨rfl, hb6⟩
    have g6 := gtr g5 hb6
    have ho6 := ho5.below hb6
    have hs0 := fun w' (hg : Below V.heap.size V w') => (hg.cell (p := ⟨w4.heap.size, 0, none⟩) hzV).trans c0V
    have HV0 := Lib.hid hs0; clear hs0 c0V u30
    have v0 := HS0.out _ g6
    have x0 := HV0.out _ hb6
    have hz6 := g6.size
    go_wp2
    go_region_held3 (fun w' => w'.cell? ⟨w.heap.size, 0, none⟩ = some (.slice A ss.length c) ∧ w'.cell? ⟨w4.heap.size, 0, none⟩ = some (.slice A4 ss.length c4)) (go_keep)
      (first
        | (go_at_call 23; refine (toBoard_any A c ss w6.drew w.heap.size (by show _ ≤ w6.heap.size; omega) (hrW.below (gtr g6 (gdrew (a := w6))) hle) hsm).mono ?_; rintro e w7 ⟨A7, c7, rfl, ho7, hb7⟩; have g7 := gtr (gdrew (a := w6)) hb7; have s0 := HS0.out _ (gtr g6 g7); have s2 := HV0.out _ (gtr hb6 g7))
        | (go_at_call 25; refine (eqBoard_same A4 A7 c4 c7 ss w7 w7.heap.size (Nat.le_refl _) ((ho6.below g7).rd) ho7.rd).mono ?_; rintro e w8 ⟨rfl, hb8⟩; have g8 := gtr g7 hb8; have t0 := HS0.out _ (gtr g6 g8); have t2 := HV0.out _ (gtr hb6 g8)))
    go_wp2
    go_ret
    exact ⟨rfl, gtr hAW (gtr g6 g8)⟩
end Go.Proofs.YtjhfnjgeikeajaaDoor
