/- RoomFor of the program and of the reference, by contracts. Conditions: none. -/
import Derived.Test.YtgnlnemhlikfnaaDoorTurnC
import Derived.Test.YtgnlnemhlikfnaaDoorSplit
namespace Go.Proofs.YtgnlnemhlikfnaaDoor
open Go.RowKit
set_option linter.unusedVariables false

def room (ps : List (List UInt8)) : Nat := (ps.map (·.length / 2)).sum
theorem room_app (a b : List (List UInt8)) : room (a ++ b) = room a + room b := by simp [room]
def roomR (r : ByteArray) : Nat := room (spl 35 r.data.toList)
def roomS (ss : List ByteArray) : Nat := (ss.map roomR).sum
def roomP (ps : List ByteArray) : Nat := (ps.map (·.size / 2)).sum
theorem roomP_pieces (r : ByteArray) : roomP (pieces 35 r) = roomR r := by
  unfold roomP pieces roomR room
  rw [List.map_map]
  have e : ((fun s : ByteArray => s.size / 2) ∘ str) = fun l : List UInt8 => l.length / 2 := by funext x; show (str x).size / 2 = _; rw [str_size]
  rw [e]
theorem roomP_step (ps : List ByteArray) (k : Nat) (h : k < ps.length) : roomP (ps.take (k + 1)) = roomP (ps.take k) + (gs ps k).size / 2 := by
  rw [List.take_succ_eq_append_getElem h, gs_lt h]
  simp only [roomP, List.map_append, List.map_cons, List.map_nil, List.sum_append, List.sum_cons, List.sum_nil, Nat.add_zero]
theorem roomS_step (ss : List ByteArray) (k : Nat) (h : k < ss.length) : roomS (ss.take (k + 1)) = roomS (ss.take k) + roomR (gs ss k) := by
  rw [List.take_succ_eq_append_getElem h, gs_lt h]
  simp only [roomS, List.map_append, List.map_cons, List.map_nil, List.sum_append, List.sum_cons, List.sum_nil, Nat.add_zero]
theorem room_le (c : UInt8) (l : List UInt8) : room (spl c l) ≤ l.length := by
  induction l with
  | nil => simp [spl, room]
  | cons b l ih =>
    simp only [spl]
    split
    · simp [room] at ih ⊢; omega
    · split
      · simp [room]
      · rename_i p ps e; rw [e] at ih; simp [room] at ih ⊢; omega
theorem roomR_le (r : ByteArray) : roomR r ≤ r.size := by have := room_le 35 r.data.toList; rw [data_len] at this; exact this
theorem roomS_le (ss : List ByteArray) (h : ∀ j, j < ss.length → (gs ss j).size ≤ 8) (k : Nat) (hk : k ≤ ss.length) : roomS (ss.take k) ≤ 8 * k := by
  induction k with
  | zero => simp [roomS]
  | succ k ih =>
    rw [roomS_step ss k hk]
    have h1 := ih (by omega)
    have h2 := roomR_le (gs ss k)
    have h3 := h k hk
    omega
theorem roomP_le (ps : List ByteArray) (k : Nat) : roomP (ps.take k) ≤ roomP ps := by
  induction ps generalizing k with
  | nil => simp [roomP]
  | cons x ps ih =>
    cases k with
    | zero => simp [roomP]
    | succ k => have := ih k; simp [roomP] at this ⊢; omega
theorem gs_size_pieces (r : ByteArray) (k : Nat) (h : k < (pieces 35 r).length) : (gs (pieces 35 r) k).size ≤ 2 * r.size + 1 := by
  have h1 := roomP_step _ k h
  have h2 := roomP_le (pieces 35 r) (k + 1)
  rw [roomP_pieces] at h2
  have h3 := roomR_le r
  omega
/-- The reference's state behind some bytes of a row. -/
def rn (l : List UInt8) : Nat := room (spl 35 l)
def rr (l : List UInt8) : Nat := ((spl 35 l).getLastD []).length % 2
theorem rn_rr {l : List UInt8} {o : List (List UInt8)} {p : List UInt8} (h : spl 35 l = o ++ [p]) : rn l = room o + p.length / 2 ∧ rr l = p.length % 2 := by
  unfold rn rr
  rw [h, room_app]
  constructor
  · simp [room]
  · rw [List.getLastD_concat]
theorem rn_dot (l : List UInt8) : rn (l ++ [46]) = rn l + rr l ∧ rr (l ++ [46]) = 1 - rr l := by
  obtain ⟨o, p, h⟩ := spl_form 35 l
  have h' := spl_snoc 35 46 l o p h
  rw [if_neg (by decide)] at h'
  obtain ⟨a1, a2⟩ := rn_rr h
  obtain ⟨b1, b2⟩ := rn_rr h'
  rw [List.length_append, List.length_singleton] at b1 b2
  rw [a1, a2, b1, b2]
  omega
theorem rn_wall (l : List UInt8) : rn (l ++ [35]) = rn l ∧ rr (l ++ [35]) = 0 := by
  obtain ⟨o, p, h⟩ := spl_form 35 l
  have h' := spl_snoc 35 35 l o p h
  rw [if_pos rfl] at h'
  obtain ⟨a1, a2⟩ := rn_rr h
  have h2 : spl 35 (l ++ [35]) = (o ++ [p]) ++ [[]] := by rw [h']; simp
  obtain ⟨b1, b2⟩ := rn_rr h2
  rw [room_app] at b1
  simp [room] at b1 b2 a1
  exact ⟨by rw [a1, b1] <;> simp [room], b2⟩
theorem rr_le (l : List UInt8) : rr l ≤ 1 := by unfold rr; omega
theorem rn_le (l : List UInt8) : rn l ≤ l.length := room_le 35 l
theorem data_step (s : ByteArray) (k : Nat) (h : k < s.size) : s.data.toList.take (k + 1) = s.data.toList.take k ++ [s[k]] := by
  have h' : k < s.data.toList.length := by rw [data_len]; exact h
  rw [List.take_succ_eq_append_getElem h']; rfl
theorem boardP_turn {ss : List ByteArray} (hg : boardB ss = true) : boardP (resTurnBoard ss) := by
  have hb := boardB_of hg
  obtain ⟨⟨h1, h2⟩, ⟨h3, h4⟩, h5⟩ := hb
  have e : resTurnBoard ss = (List.range (gs ss 0).size).map (colS ss) := by rw [resTurnBoard, if_pos hg]
  have hl : (resTurnBoard ss).length = (gs ss 0).size := by rw [e, List.length_map, List.length_range]
  have hi : ∀ i, i < (resTurnBoard ss).length → gs (resTurnBoard ss) i = colS ss i := fun i hi => by
    rw [gs_lt hi]; simp [e]
  have hz : ∀ i, (colS ss i).size = ss.length := fun i => by rw [colS, str_size, List.length_map]
  refine ⟨⟨by omega, by omega⟩, ⟨by rw [hi 0 (by omega), hz]; exact h1, by rw [hi 0 (by omega), hz]; exact h2⟩, fun i hli => ⟨by rw [hi i hli, hi 0 (by omega), hz, hz], ?_⟩⟩
  rw [hi i hli, allIn_true]
  intro k hk
  have hk' : k < ss.length := by rw [hz] at hk; exact hk
  have hq := h5 k hk'
  have hi2 : i < (gs ss k).size := by rw [hq.1]; omega
  have e3 : (gs ss k)[i] = (gs ss k).data.toList.getD i 0 := by
    have hc' : i < (gs ss k).data.toList.length := by rw [data_len]; exact hi2
    rw [List.getD_eq_getElem?_getD, List.getElem?_eq_getElem hc']; rfl
  have e2 : (colS ss i)[k] = (gs ss k)[i] := by
    rw [e3, gs_lt hk']
    show (ss.map fun r => r.data.toList.getD i 0)[k]'(by simpa using hk') = _
    rw [List.getElem_map]
  rw [e2]
  exact allIn_true.1 hq.2 i hi2
def resRoom (ss : List ByteArray) (left : Bool) : Nat := if boardB ss = true then roomS (if left = true then resTurnBoard ss else ss) else 0


set_option maxHeartbeats 1600000 in
theorem roomI_any (A : Option Addr) (c : Nat) (ss : List ByteArray) (left : Bool) (w : World) (B : Nat) (hB : B ≤ w.heap.size) (h : Rd w B A c (scells ss)) (hsz : Hid (Short ss)) (hn : ss.length ≤ 1048576) :
    Calls Tryd.prog 48 #[.agg #[.slice A ss.length c], .bool left] w fun e w' => e = .returned (.tuple #[.int .i64 (resRoom ss left), .bool (boardB ss)]) ∧ Below w.heap.size w w' := by
  have h1 := h.len
  have h2 := h.max
  rw [scells_len] at h1
  go_enter Tryd.func48, Tryd.ntmps48
  go_wp2_with fail
  have kW : Blk (w.alloc (.cells #[.slice A ss.length c] 41)) w.heap.size 41 #[.slice A ss.length c] := Blk.new _ _ _
  have hzW : w.heap.size < (w.alloc (.cells #[.slice A ss.length c] 41)).heap.size := by simp
  have hAW : Below w.heap.size w (w.alloc (.cells #[.slice A ss.length c] 41)) := (Below.refl _ _).alloc (Nat.le_refl _) _
  have c0W : (w.alloc (.cells #[.slice A ss.length c] 41)).cell? ⟨w.heap.size, 0, none⟩ = some (.slice A ss.length c) := by simp [go_sem]
  generalize w.alloc (.cells #[.slice A ss.length c] 41) = W at *
  have hrW := h.below hAW hB
  refine (goodBoardI_any A c ss W B (by omega) hrW hsz).mono ?_; rintro e w1 ⟨rfl, hb1⟩
  have k1 := kW.below hb1 hzW
  have q0 : w1.cell? ⟨w.heap.size, 0, none⟩ = some (.slice A ss.length c) := k1.cell 0
  have hb := gtr hAW hb1
  clear c0W kW
  cases hg : boardB ss
  · have HT : Hid (resRoom ss left = 0) := by show _ = _; rw [resRoom, hg]; rfl
    go_wp2
    exact bodyPost_ret (v := .tuple #[.int .i64 0, .bool false]) (by simp [results, Tryd.results48, go_sem]) rfl ⟨by rw [HT.out, hg]; rfl, hb⟩
  · cases left
    · have HT : Hid (resRoom ss false = roomS ss) := by show _ = _; rw [resRoom, if_pos hg]; rfl
      have HBP := Lib.hid (boardB_of hg)
      have hrd := (hrW.below hb1 (by omega)).more (B' := w1.heap.size) (by have := hb.size; omega)
      have hl0 : 0 < ss.length := HBP.out.1.1
      have hl8 : ss.length ≤ 8 := HBP.out.1.2
      clear hrW h hsz
      generalize hrs : ss = rs at *

      have hz8 : Hid (∀ j, j < rs.length → (gs rs j).size ≤ 8) := fun j hj => by rw [(HBP.out.2.2 j hj).1]; exact HBP.out.2.1.2
      obtain ⟨b, o, rfl, hbB, hc⟩ := hrd.at (j := 0) (by rw [scells_len]; exact hl0)
      have HC := Lib.hid fun i (hi : i < rs.length) => hc i _ (gs_at rs i hi)
      clear hc hrd
      go_wp2
      obtain ⟨V, hV⟩ : ∃ V, V = w1 := ⟨_, rfl⟩
      have HCV : Hid (∀ w', Below V.heap.size V w' → ∀ i, i < rs.length → w'.cell? ⟨b, o + i, none⟩ = some (.string (gs rs i))) := fun w' hbb i hi => (hbb.cell (p := ⟨b, o + i, none⟩) (by rw [hV]; exact hbB)).trans (by rw [hV]; exact HC.out i hi)
      have hbV' : Below w.heap.size w V := by rw [hV]; exact hb
      first | rw [← hV] | (show Code.wp _ _ _ _ _; rw [← hV])
      clear hV HC
      go_loopw [6, 8, 10, 23, 30] (fun n _ _ i _ wr => ∃ k : Nat, i = .int .i64 k ∧ k ≤ rs.length ∧ n = .int .i64 (roomS (rs.take k)) ∧ Below V.heap.size V wr) (fun _ _ _ i _ _ => rs.length - (intOf i).toNat)
      case atStart => exact ⟨0, rfl, by omega, rfl, Below.refl _ _⟩
      case round =>
        obtain ⟨k, rfl, hk, rfl, hbr⟩ := hrel
        have hrl := roomS_le rs hz8.out k hk
        by_cases hlt : k < rs.length
        · have qk := HCV.out _ hbr k hlt
          have hzk := hz8.out k hlt
          obtain ⟨r, hr⟩ : ∃ r, r = gs rs k := ⟨_, rfl⟩
          rw [← hr] at qk hzk
          have HST := Lib.hid (roomS_step rs k hlt)
          rw [← hr] at HST
          clear hr
          go_wp2_with fail
          refine (split_any 35 r wr (by omega)).mono ?_; rintro e w3 ⟨A2, c2, rfl, ho, hb3⟩
          have hpl := pieces_len 35 r
          have hp0 : 0 < (pieces 35 r).length := by obtain ⟨o, p, e⟩ := spl_form 35 r.data.toList; rw [pieces, List.length_map, e]; simp
          have hrp := ho.rd
          have hr1 := hrp.len
          have hr2 := hrp.max
          rw [scells_len] at hr1
          have HG := Lib.hid (gs_size_pieces r)
          have HP := Lib.hid (roomP_le (pieces 35 r))
          have HPR := Lib.hid (roomP_pieces r)
          have hrr := roomR_le r
          have hps : roomP (pieces 35 r) ≤ 8 := by rw [roomP_pieces]; omega
          obtain ⟨b2, o2, rfl, hb2B, hc2⟩ := hrp.at (j := 0) (by rw [scells_len]; exact hp0)
          generalize pieces 35 r = ps at *
          have HC2 := Lib.hid fun i (hi : i < ps.length) => hc2 i _ (gs_at ps i hi)
          clear hc2 hrp ho
          go_wp2
          go_loop [6, 10, 30] (fun n _ j => ∃ m : Nat, j = .int .i64 m ∧ m ≤ ps.length ∧ n = .int .i64 ((roomS (rs.take k) : Int) + (roomP (ps.take m) : Int))) (fun _ _ j => ps.length - (intOf j).toNat)
          case atStart => exact ⟨0, rfl, by omega, by simp [roomP]⟩
          case round =>
            obtain ⟨m, rfl, hm, rfl⟩ := hrel
            have hpm := HP.out m
            by_cases hml : m < ps.length
            · have qm := HC2.out m hml
              have hgm := HG.out m hml
              have hpm1 := HP.out (m + 1)
              have hst := roomP_step ps m hml
              rw [hst] at hpm1
              go_wp2
              go_round
              case rel => exact ⟨m + 1, by go_num, by omega, by rw [hst]; go_num⟩
              case measure => simp [intOf]; omega
            · obtain rfl : m = ps.length := by omega
              have HE : Hid ((roomS (rs.take k) : Int) + (roomP (ps.take ps.length) : Int) = ((roomS (rs.take (k + 1)) : Nat) : Int)) := by show _ = _; rw [List.take_length, HPR.out, HST.out]; omega
              go_wp2
              go_roundw
              case rel => exact ⟨k + 1, by go_num, by omega, by rw [HE.out], gtr hbr hb3⟩
              case measure => simp [intOf]; omega
        · obtain rfl : k = rs.length := by omega
          have HE : Hid (roomS (rs.take rs.length) = roomS rs) := by show _ = _; rw [List.take_length]
          go_wp2
          exact bodyPost_ret (v := .tuple #[.int .i64 (roomS rs), .bool true]) (by simp [results, Tryd.results48, go_sem]) rfl ⟨by first | rw [HT.out, hg] | rw [hrs, HT.out, hg], gtr hbV' hbr⟩

    · have HT : Hid (resRoom ss true = roomS (resTurnBoard ss)) := by show _ = _; rw [resRoom, if_pos hg]; rfl
      have HBP := Lib.hid (boardP_turn hg)
      go_wp2_with fail
      refine (TurnBoardI_any A c ss w1 B (by have := hb.size; omega) (hrW.below hb1 (by omega)) hsz hn).mono ?_; rintro e w2 ⟨A3, c3, rfl, ho3, hb2⟩
      obtain ⟨rs, hrs⟩ : ∃ rs, rs = resTurnBoard ss := ⟨_, rfl⟩
      rw [← hrs] at ho3 HBP HT ⊢
      have k2 := k1.below hb2 k1.lt
      have z2 := k2.frozen 0
      have y2 : w2.cell? ⟨w.heap.size, 0, none⟩ = some (.slice A ss.length c) := k2.cell 0
      have hbs := gtr hb hb2
      have hwz : w.heap.size < w1.heap.size := k1.lt
      have ho4 := ho3.far' (p := ⟨w.heap.size, 0, none⟩) (u := .slice A3 rs.length c3) (by dsimp only; omega)
      have k4 := k2.set 0 (.slice A3 rs.length c3)
      have hbV : Below w.heap.size w (w2.setCell ⟨w.heap.size, 0, none⟩ (.slice A3 rs.length c3)) := hbs.setCell (by dsimp only; omega) _
      have hl0 : 0 < rs.length := HBP.out.1.1
      have hl8 : rs.length ≤ 8 := HBP.out.1.2
      clear hrW h hsz hrs h1 h2 q0
      have hrd := ho4.rd
      have h1 := hrd.len
      have h2 := hrd.max
      rw [scells_len] at h1
      have q0 : (w2.setCell ⟨w.heap.size, 0, none⟩ (.slice A3 rs.length c3)).cell? ⟨w.heap.size, 0, none⟩ = some (.slice A3 rs.length c3) := k4.cell 0
      clear ho3 k1 k2

      have hz8 : Hid (∀ j, j < rs.length → (gs rs j).size ≤ 8) := fun j hj => by rw [(HBP.out.2.2 j hj).1]; exact HBP.out.2.1.2
      obtain ⟨b, o, rfl, hbB, hc⟩ := hrd.at (j := 0) (by rw [scells_len]; exact hl0)
      have HC := Lib.hid fun i (hi : i < rs.length) => hc i _ (gs_at rs i hi)
      clear hc hrd
      go_wp2
      obtain ⟨V, hV⟩ : ∃ V, V = (w2.setCell ⟨w.heap.size, 0, none⟩ (.slice (some ⟨b, o, none⟩) rs.length c3)) := ⟨_, rfl⟩
      have HCV : Hid (∀ w', Below V.heap.size V w' → ∀ i, i < rs.length → w'.cell? ⟨b, o + i, none⟩ = some (.string (gs rs i))) := fun w' hbb i hi => (hbb.cell (p := ⟨b, o + i, none⟩) (by rw [hV]; exact hbB)).trans (by rw [hV]; exact HC.out i hi)
      have hbV' : Below w.heap.size w V := by rw [hV]; exact hbV
      first | rw [← hV] | (show Code.wp _ _ _ _ _; rw [← hV])
      clear hV HC
      go_loopw [6, 8, 10, 23, 30] (fun n _ _ i _ wr => ∃ k : Nat, i = .int .i64 k ∧ k ≤ rs.length ∧ n = .int .i64 (roomS (rs.take k)) ∧ Below V.heap.size V wr) (fun _ _ _ i _ _ => rs.length - (intOf i).toNat)
      case atStart => exact ⟨0, rfl, by omega, rfl, Below.refl _ _⟩
      case round =>
        obtain ⟨k, rfl, hk, rfl, hbr⟩ := hrel
        have hrl := roomS_le rs hz8.out k hk
        by_cases hlt : k < rs.length
        · have qk := HCV.out _ hbr k hlt
          have hzk := hz8.out k hlt
          obtain ⟨r, hr⟩ : ∃ r, r = gs rs k := ⟨_, rfl⟩
          rw [← hr] at qk hzk
          have HST := Lib.hid (roomS_step rs k hlt)
          rw [← hr] at HST
          clear hr
          go_wp2_with fail
          refine (split_any 35 r wr (by omega)).mono ?_; rintro e w3 ⟨A2, c2, rfl, ho, hb3⟩
          have hpl := pieces_len 35 r
          have hp0 : 0 < (pieces 35 r).length := by obtain ⟨o, p, e⟩ := spl_form 35 r.data.toList; rw [pieces, List.length_map, e]; simp
          have hrp := ho.rd
          have hr1 := hrp.len
          have hr2 := hrp.max
          rw [scells_len] at hr1
          have HG := Lib.hid (gs_size_pieces r)
          have HP := Lib.hid (roomP_le (pieces 35 r))
          have HPR := Lib.hid (roomP_pieces r)
          have hrr := roomR_le r
          have hps : roomP (pieces 35 r) ≤ 8 := by rw [roomP_pieces]; omega
          obtain ⟨b2, o2, rfl, hb2B, hc2⟩ := hrp.at (j := 0) (by rw [scells_len]; exact hp0)
          generalize pieces 35 r = ps at *
          have HC2 := Lib.hid fun i (hi : i < ps.length) => hc2 i _ (gs_at ps i hi)
          clear hc2 hrp ho
          go_wp2
          go_loop [6, 10, 30] (fun n _ j => ∃ m : Nat, j = .int .i64 m ∧ m ≤ ps.length ∧ n = .int .i64 ((roomS (rs.take k) : Int) + (roomP (ps.take m) : Int))) (fun _ _ j => ps.length - (intOf j).toNat)
          case atStart => exact ⟨0, rfl, by omega, by simp [roomP]⟩
          case round =>
            obtain ⟨m, rfl, hm, rfl⟩ := hrel
            have hpm := HP.out m
            by_cases hml : m < ps.length
            · have qm := HC2.out m hml
              have hgm := HG.out m hml
              have hpm1 := HP.out (m + 1)
              have hst := roomP_step ps m hml
              rw [hst] at hpm1
              go_wp2
              go_round
              case rel => exact ⟨m + 1, by go_num, by omega, by rw [hst]; go_num⟩
              case measure => simp [intOf]; omega
            · obtain rfl : m = ps.length := by omega
              have HE : Hid ((roomS (rs.take k) : Int) + (roomP (ps.take ps.length) : Int) = ((roomS (rs.take (k + 1)) : Nat) : Int)) := by show _ = _; rw [List.take_length, HPR.out, HST.out]; omega
              go_wp2
              go_roundw
              case rel => exact ⟨k + 1, by go_num, by omega, by rw [HE.out], gtr hbr hb3⟩
              case measure => simp [intOf]; omega
        · obtain rfl : k = rs.length := by omega
          have HE : Hid (roomS (rs.take rs.length) = roomS rs) := by show _ = _; rw [List.take_length]
          go_wp2
          exact bodyPost_ret (v := .tuple #[.int .i64 (roomS rs), .bool true]) (by simp [results, Tryd.results48, go_sem]) rfl ⟨by first | rw [HT.out, hg] | rw [hrs, HT.out, hg], gtr hbV' hbr⟩


end Go.Proofs.YtgnlnemhlikfnaaDoor
