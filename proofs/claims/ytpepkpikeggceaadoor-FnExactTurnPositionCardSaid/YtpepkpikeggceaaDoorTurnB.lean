/- TurnBoard of the program and of the reference, by contracts. Conditions: none. -/
import Derived.Test.YtpepkpikeggceaaDoorMirrorB
import Derived.Test.YtpepkpikeggceaaDoorIter
namespace Go.Proofs.YtpepkpikeggceaaDoor
open Go.RowKit
set_option linter.unusedVariables false

def colS (ss : List ByteArray) (c : Nat) : ByteArray := str (ss.map fun r => r.data.toList.getD c 0)
def resTurnBoard (ss : List ByteArray) : List ByteArray := if boardB ss = true then (List.range (gs ss 0).size).map (colS ss) else []
theorem resTurnBoard_le (ss : List ByteArray) : (resTurnBoard ss).length ≤ 8 := by
  unfold resTurnBoard
  split
  · rename_i h; rw [List.length_map, List.length_range]; exact (boardB_of h).2.1.2
  · simp
theorem range_step (f : Nat → ByteArray) (k : Nat) : (List.range (k + 1)).map f = (List.range k).map f ++ [f k] := by rw [List.range_succ, List.map_append]; rfl
/-- The bytes of a column. -/
def colB (ss : List ByteArray) (c : Nat) : List UInt8 := ss.map fun r => r.data.toList.getD c 0
theorem colB_step (ss : List ByteArray) (c k : Nat) (h : k < ss.length) (hc : c < (gs ss k).size) : (colB ss c).take (k + 1) = (colB ss c).take k ++ [(gs ss k)[c]] := by
  have h' : k < (colB ss c).length := by simp [colB]; exact h
  rw [List.take_succ_eq_append_getElem h']
  congr 2
  have e : (gs ss k)[c] = (gs ss k).data.toList.getD c 0 := by
    have hc' : c < (gs ss k).data.toList.length := by rw [data_len]; exact hc
    rw [List.getD_eq_getElem?_getD, List.getElem?_eq_getElem hc']; rfl
  rw [e, gs_lt h]
  simp [colB]

set_option maxHeartbeats 1600000 in
theorem TurnBoardI_any (A : Option Addr) (c : Nat) (ss : List ByteArray) (w : World) (B : Nat) (hB : B ≤ w.heap.size) (h : Rd w B A c (scells ss)) (hsz : Hid (Short ss)) (hn : ss.length ≤ 1048576) :
    Calls Tryd.prog 25 #[.agg #[.slice A ss.length c]] w (RetBB w (resTurnBoard ss) (boardB ss)) := by
  have h1 := h.len
  have h2 := h.max
  rw [scells_len] at h1
  go_enter Tryd.func25, Tryd.ntmps25
  go_wp2_with fail
  obtain ⟨W, hW⟩ : ∃ W, W = (w.alloc (.cells #[.slice A ss.length c] 45)).alloc (.cells #[.slice none 0 0] 45) := ⟨_, rfl⟩
  have e0 : Blk W w.heap.size 45 #[.slice A ss.length c] := by rw [hW]; exact (Blk.new w _ _).alloc _
  have e1 : Blk W (w.heap.size + 1) 45 #[.slice none 0 0] := by rw [hW]; exact Blk.new_at (w.alloc _) _ _ (by simp)
  have hAW : Below w.heap.size w W := by rw [hW]; exact bel2 _ _ _
  have hzW : w.heap.size + 2 ≤ W.heap.size := by rw [hW]; simp
  rw [← hW]
  clear hW
  have hrW := h.below hAW hB
  cases hg : boardB ss
  · have HT : Hid (resTurnBoard ss = []) := by show _ = _; rw [resTurnBoard, hg]; rfl
    refine (goodBoardI_any A c ss W B (by omega) hrW hsz).mono ?_; rintro e w1 ⟨rfl, hb1⟩
    have f1 := e1.below hb1 e1.lt
    have q10 : w1.cell? ⟨w.heap.size + 1, 0, none⟩ = some (.slice none 0 0) := f1.cell 0
    have z10 := f1.frozen 0
    go_wp2
    refine bodyPost_ret (v := .tuple #[.agg #[.slice none 0 0], .bool false]) (by simp [results, Tryd.results25, go_sem, q10]) rfl ⟨none, 0, by rw [HT.out, hg]; rfl, by rw [HT.out]; exact own_none _ _ _, ?_⟩
    exact (gtr hAW hb1).setCell (by dsimp only; omega) _
  · have HT : Hid (resTurnBoard ss = (List.range (gs ss 0).size).map (colS ss)) := by show _ = _; rw [resTurnBoard, if_pos hg]
    have HBP := Lib.hid (boardB_of hg)
    have hl8 : ss.length ≤ 8 := HBP.out.1.2
    have hl0 : 0 < ss.length := HBP.out.1.1
    have hs8 : (gs ss 0).size ≤ 8 := HBP.out.2.1.2
    refine (goodBoardI_any A c ss W B (by omega) hrW hsz).mono ?_; rintro e w1 ⟨rfl, hb1⟩
    have hbw1 := gtr hAW hb1
    obtain ⟨b, o, rfl, hbB, hc⟩ := (h.below hbw1 hB).at (j := 0) (by rw [scells_len]; exact hl0)
    have HR : Hid (∀ w', Below w1.heap.size w1 w' → ∀ i, i < ss.length → w'.cell? ⟨b, o + i, none⟩ = some (.string (gs ss i))) := fun w' hb i hi =>
      (hb.cell (p := ⟨b, o + i, none⟩) (by show b < _; have := hbw1.size; omega)).trans (hc i _ (gs_at ss i hi))
    clear hc
    have f0 := e0.below hb1 e0.lt
    have f1 := e1.below hb1 e1.lt
    have q00 : w1.cell? ⟨w.heap.size, 0, none⟩ = some (.slice (some ⟨b, o, none⟩) ss.length c) := f0.cell 0
    have qr0 : ∀ o', (w1.alloc o').cell? ⟨b, o, none⟩ = some (.string (gs ss 0)) := fun o' => HR.out _ (bel1 _ _) 0 hl0
    have hz1 := hb1.size
    have q0a : ∀ o', (w1.alloc o').cell? ⟨w.heap.size, 0, none⟩ = some (.slice (some ⟨b, o, none⟩) ss.length c) := fun o' => (f0.alloc o').cell 0
    go_wp2
    clear q0a
    obtain ⟨V1, hV1⟩ : ∃ V, V = w1.alloc (.cells #[.slice none 0 0] 45) := ⟨_, rfl⟩
    have m1 : Blk V1 (w.heap.size + 1) 45 #[.slice none 0 0] := by rw [hV1]; exact f1.alloc _
    have m0 : Blk V1 w.heap.size 45 #[.slice (some ⟨b, o, none⟩) ss.length c] := by rw [hV1]; exact f0.alloc _
    have m4 : Blk V1 w1.heap.size 45 #[.slice none 0 0] := by rw [hV1]; exact Blk.new _ _ _
    have hbV1 : Below w1.heap.size w1 V1 := by rw [hV1]; exact bel1 _ _
    have hzV1 : V1.heap.size = w1.heap.size + 1 := by rw [hV1]; simp
    rw [← hV1]
    clear hV1 q00 qr0 f0 e0 e1 f1
    obtain ⟨V, hV⟩ : ∃ V, V = V1.iter (gs ss 0) 0 := ⟨_, rfl⟩
    have k1 : Blk V (w.heap.size + 1) 45 #[.slice none 0 0] := by rw [hV]; exact m1.alloc _
    have k0 : Blk V w.heap.size 45 #[.slice (some ⟨b, o, none⟩) ss.length c] := by rw [hV]; exact m0.alloc _
    have k4 : Blk V w1.heap.size 45 #[.slice none 0 0] := by rw [hV]; exact m4.alloc _
    have kI : ItAt V V1.heap.size (gs ss 0) 0 := by rw [hV]; exact ItAt.new _ _
    have hbV : Below w1.heap.size w1 V := by rw [hV]; exact gtr hbV1 (bel1 _ _)
    have hzV : V.heap.size = V1.heap.size + 1 := by rw [hV]; simp [World.iter]
    have hiz := hzV1
    rw [hzV1] at kI hzV
    have HZV := Lib.hid hzV; have HZ1 := Lib.hid hzV1
    have hzV' : w1.heap.size + 2 ≤ V.heap.size := by omega
    clear hiz hzV hzV1 m0 m1 m4 hbV1
    have HASC : Hid (∀ k (hk : k < (gs ss 0).size), (gs ss 0)[k].toNat < 128) := by
      intro k hk
      have := allIn_true.1 (HBP.out.2.2 0 hl0).2 k hk
      simp at this
      rcases this with e | e <;> rw [e] <;> decide
    have HSZ : Hid (∀ j, j < ss.length → (gs ss j).size = (gs ss 0).size) := fun j hj => (HBP.out.2.2 j hj).1
    rw [← HZ1.out]
    first | rw [← hV] | (show Code.wp _ _ _ _ _; rw [← hV])
    clear hV
    go_loopw [5, 6, 7, 18, 25] (fun x y z u v wr => ∃ (k : Nat) (A' : Option Addr) (c' : Nat), k ≤ (gs ss 0).size ∧ ItAt wr (w1.heap.size + 1) (gs ss 0) k ∧ Blk wr w1.heap.size 45 #[.slice A' k c'] ∧ Blk wr (w.heap.size + 1) 45 #[.slice none 0 0] ∧ Blk wr w.heap.size 45 #[.slice (some ⟨b, o, none⟩) ss.length c] ∧ Own wr V.heap.size 9 (.slice A' k c') (scells ((List.range k).map (colS ss))) ∧ Below w1.heap.size w1 wr ∧ V.heap.size ≤ wr.heap.size) (fun _ _ _ _ _ wr => (gs ss 0).size - wr.iterPos (w1.heap.size + 1))
    case atStart => exact ⟨0, none, 0, by omega, kI, k4, k1, k0, own_none _ _ _, hbV, Nat.le_refl _⟩
    case round =>
      clear kI k0 k1 k4 hbV
      obtain ⟨k, A', c', hk, hI, e4, e1, e0, ho, hb, hzr⟩ := hrel
      have hpos := hI.pos
      have HPOS := Lib.hid hpos; clear hpos
      by_cases hlt : k < (gs ss 0).size
      · obtain ⟨w2, hnx, hI2, hg2, hz2⟩ := next_more (P := Tryd.prog) hI hlt (HASC.out k hlt)
        have i4 := e4.grown hg2 (by simp)
        have i1 := e1.grown hg2 (by simp; omega)
        have i0 := e0.grown hg2 (by simp; omega)
        have ho2 := ho.grown hg2 (by
          cases hv : (Value.slice A' k c').ownBlock with
          | none => exact .inl rfl
          | some g => exact .inr fun e => by injection e with e; have := (ho.lt g hv).1; omega)
        have hb2 : Below w1.heap.size w1 w2 := hb.grown hg2 (by omega) fun g hg => by injection hg with hg; omega
        have HRR := HR.out w2 hb2
        have HROWS := Lib.hid HRR; clear HRR
        have HI2 := Lib.hid hI2; have H4 := Lib.hid i4; have H1 := Lib.hid i1; have H0 := Lib.hid i0; have HO := Lib.hid ho2; have HZ2 := Lib.hid hz2
        have hz2' : wr.heap.size ≤ w2.heap.size := by omega
        have q0 : w2.cell? ⟨w.heap.size, 0, none⟩ = some (.slice (some ⟨b, o, none⟩) ss.length c) := i0.cell 0
        have q0a : ∀ o', (w2.alloc o').cell? ⟨w.heap.size, 0, none⟩ = some (.slice (some ⟨b, o, none⟩) ss.length c) := fun o' => (i0.alloc o').cell 0
        clear hI hI2 i4 i1 e4 e1 e0 ho ho2 hz2 i0
        have hnx := hnx 0
        rw [← HZ1.out] at hnx
        go_wp2
        clear hnx q0 q0a
        go_loopw [6, 7, 25] (fun v x y wr => ∃ (j : Nat) (A3 : Option Addr) (c3 : Nat), y = .int .i64 j ∧ j ≤ ss.length ∧ v = .slice A3 j c3 ∧ Own wr w2.heap.size 5 (.slice A3 j c3) (bcells ((colB ss k).take j)) ∧ Below w2.heap.size w2 wr) (fun _ _ y _ => ss.length - (intOf y).toNat)
        case atStart => exact ⟨0, _, _, rfl, by omega, rfl, Own.empty w2 5 _ _ (Nat.le_refl _), bel1 _ _⟩
        case round =>
          obtain ⟨j, A3, c3, rfl, hj, rfl, ho3, hb3⟩ := hrel
          have hz3 := hb3.size
          have p0 : _ := (H0.out.below hb3 H0.out.lt).cell 0
          have q0 : ∀ (wx : World), Below w2.heap.size w2 wx → wx.cell? ⟨w.heap.size, 0, none⟩ = some (.slice (some ⟨b, o, none⟩) ss.length c) := fun wx hbx => (H0.out.below hbx H0.out.lt).cell 0
          have q0 := q0 _ hb3
          clear p0
          by_cases hjl : j < ss.length
          · have qj : wr.cell? ⟨b, o + j, none⟩ = some (.string (gs ss j)) := (hb3.cell (p := ⟨b, o + j, none⟩) (by show b < _; have := hbw1.size; omega)).trans (HROWS.out j hjl)
            have hkj : k < (gs ss j).size := by rw [HSZ.out j hjl]; exact hlt
            have hsj := hsz.out j hjl
            have HL : Hid (((colB ss k).take j).length = j) := by show _ = _; rw [List.length_take, colB, List.length_map]; omega
            have HT := Lib.hid (colB_step ss k j hjl hkj)
            go_wp2_with (at_builtin; refine append_byte rfl _ _ rfl w2.heap.size _ ((colB ss k).take j) rfl (ho3.below ((Below.refl _ _).alloc (Nat.le_refl _) _)) _ (gs ss j)[k] rfl ((Blk.new _ _ _).cell 0) (by rw [HL.out]; omega) (by simp; omega) ?_; intro A5 c5 w5 ho5 hb5 hg5; rw [HL.out, ← HT.out] at ho5; rw [HL.out])
            have HO5 := Lib.hid ho5; clear ho5
            go_roundw
            case rel => exact ⟨j + 1, A5, c5, by go_num, by omega, rfl, HO5.out, (hb3.alloc hz3 _).trans hb5⟩
            case measure => simp [intOf]; omega
          · obtain rfl : j = ss.length := by omega
            have HE : Hid ((colB ss k).take ss.length = colB ss k) := List.take_of_length_le (by simp [colB])
            rw [HE.out] at ho3
            have hback := own_back ho3
            obtain ⟨x, hx⟩ : ∃ x, x = str (colB ss k) := ⟨_, rfl⟩
            rw [← hx] at hback
            have HX : Hid (x = colS ss k) := hx
            have HO3 := Lib.hid ho3; clear ho3 hx
            have q4 : wr.cell? ⟨w1.heap.size, 0, none⟩ = some (.slice A' k c') := (H4.out.below hb3 H4.out.lt).cell 0
            have HN : Hid (((List.range k).map (colS ss)).length = k) := by show _ = _; rw [List.length_map, List.length_range]
            go_wp2_with (at_builtin; refine append_str rfl _ _ rfl V.heap.size _ ((List.range k).map (colS ss)) rfl ((HO.out.below hb3).below (bel1 _ _)) _ x rfl ((Blk.new _ _ _).cell 0) (by rw [HN.out]; omega) (by simp; omega) ?_; intro A5 c5 w5 ho5 hb5 hg5; have hne : ∀ g, g < V.heap.size → some g ≠ (Value.slice A' k c').ownBlock := (fun g hg he => by have := (HO.out.lt g he.symm).1; omega); have f4 := ((H4.out.below hb3 H4.out.lt).alloc (.cells #[.string x] 9)).grown hg5 (hne _ (by omega)); have f1 := ((H1.out.below hb3 H1.out.lt).alloc (.cells #[.string x] 9)).grown hg5 (hne _ (by omega)); have f0 := ((H0.out.below hb3 H0.out.lt).alloc (.cells #[.string x] 9)).grown hg5 (hne _ (by omega)); have fI := ((HI2.out.below hb3 HI2.out.lt).alloc (.cells #[.string x] 9)).grown hg5 (hne _ (by omega)); have s4 : w5.cell? ⟨w1.heap.size, 0, none⟩ = some (.slice A' k c') := f4.cell 0; have z4 := f4.frozen 0; rw [HN.out] at ho5 ⊢)
            have HO5 : Hid (Own w5 V.heap.size 9 (.slice A5 (k + 1) c5) (scells ((List.range (k + 1)).map (colS ss)))) := by
              show Own _ _ _ _ _
              rw [range_step (colS ss) k, ← HX.out]; exact ho5
            have HFI := Lib.hid fI; have HF0 := Lib.hid f0; have HF1 := Lib.hid f1; have HF4 := Lib.hid f4
            have hz5 := hb5.size
            simp at hz5
            clear ho5 f0 f1 f4 fI
            go_roundw
            case rel =>
              refine ⟨k + 1, A5, c5, by omega, HFI.out.far (by dsimp only; omega) _, HF4.out.set 0 _, HF1.out.far (by dsimp only; omega) _, HF0.out.far (by dsimp only; omega) _, HO5.out.far' _ _ (by dsimp only; omega), ?_, by simp; omega⟩
              exact (((hb2.trans (hb3.mono (by omega))).alloc (by omega) _).trans (hb5.mono (by omega))).setCell (by dsimp only; omega) _
            case measure =>
              rw [HPOS.out, (HFI.out.far (p := ⟨w1.heap.size, 0, none⟩) (by dsimp only; omega) _).pos]
              omega
      · obtain rfl : k = (gs ss 0).size := by omega
        have hnx := next_end (P := Tryd.prog) hI hlt 0
        rw [← HZ1.out] at hnx
        have q1 : wr.cell? ⟨w.heap.size + 1, 0, none⟩ = some (.slice none 0 0) := e1.cell 0
        have z1 := e1.frozen 0
        have q4 : wr.cell? ⟨w1.heap.size, 0, none⟩ = some (.slice A' (gs ss 0).size c') := e4.cell 0
        have HO := Lib.hid ho; clear ho
        have HL : Hid (((List.range (gs ss 0).size).map (colS ss)).length = (gs ss 0).size) := by show _ = _; rw [List.length_map, List.length_range]
        go_wp2
        refine bodyPost_ret (v := .tuple #[.agg #[.slice A' (gs ss 0).size c'], .bool true]) (by simp [results, Tryd.results25, go_sem, q1]) rfl ⟨A', c', by rw [HT.out, HL.out, hg], ?_, ?_⟩
        · rw [HT.out, HL.out]
          exact (HO.out.far' _ _ (by dsimp only; omega)).le (by omega)
        · exact (hbw1.trans (hb.mono (by have := hbw1.size; omega))).setCell (by dsimp only; omega) _
end Go.Proofs.YtpepkpikeggceaaDoor
