/- FnExactBoardParts returns true for every board. Conditions: none. -/
import Derived.Test.YtadljglcbieifaaDoorPtL
import Derived.Test.YtadljglcbieifaaDoorTurnC
namespace Go.Proofs.YtadljglcbieifaaDoor
open Go.RowKit
set_option linter.unusedVariables false

def resParts (ss : List ByteArray) : List (List ByteArray) := if boardB ss = true then partsB ss else []
/-- Parts are few and small. -/
structure SmP (ss : List ByteArray) (n : Nat) (st : List (List Bool) × List (List ByteArray)) : Prop where
  ok : OkP ss n st
  small : ∀ t ∈ st.2, t.length ≤ 8
theorem smP_step {ss : List ByteArray} (hb : boardP ss) {n : Nat} {st : List (List Bool) × List (List ByteArray)} (h : SmP ss n st) (i k : Nat) : SmP ss (n + 1) (stepP ss st i k) := by
  refine ⟨okP_step h.ok i k, fun t ht => ?_⟩
  unfold stepP at ht
  split at ht
  · rcases List.mem_append.1 ht with ht | ht
    · exact h.small t ht
    · rw [List.mem_singleton] at ht
      rw [ht]
      exact trimP_le (flood_grid (inR_frI (ss := ss)) i k (noM_grid _ _)).1 hb.1 hb.2.1
  · exact h.small t ht
theorem smP_scanC {ss : List ByteArray} (hb : boardP ss) {n : Nat} {st : List (List Bool) × List (List ByteArray)} (h : SmP ss n st) (i k : Nat) : SmP ss (n + k) (scanPC ss i st k) := by
  induction k with
  | zero => exact h
  | succ k ih => exact smP_step hb ih i k
theorem smP_scanR {ss : List ByteArray} (hb : boardP ss) (i : Nat) : SmP ss (i * (gs ss 0).size) (scanPR ss i) := by
  induction i with
  | zero => rw [Nat.zero_mul]; exact ⟨noM_ok ss, fun t ht => absurd ht (by simp [scanPR])⟩
  | succ i ih => rw [Nat.succ_mul]; exact smP_scanC hb ih i _
theorem resParts_le (ss : List ByteArray) : (resParts ss).length ≤ 64 ∧ ∀ t ∈ resParts ss, t.length ≤ 8 := by
  unfold resParts
  split
  · rename_i hg
    have hb := boardB_of hg
    have h := smP_scanR hb ss.length
    refine ⟨?_, h.small⟩
    have h1 := h.ok.few
    have h2 : ss.length * (gs ss 0).size ≤ 8 * 8 := Nat.mul_le_mul hb.1.2 hb.2.1.2
    unfold partsB
    omega
  · exact ⟨by simp, fun t ht => absurd ht (by simp)⟩
theorem offB_bound (outs : List (List ByteArray)) (h : ∀ t ∈ outs, t.length ≤ 8) (j : Nat) (hj : j ≤ outs.length) : offB outs j ≤ 8 * j := by
  induction j with
  | zero => exact Nat.zero_le _
  | succ j ih =>
    have h1 := ih (by omega)
    have h2 : (gss outs j).length ≤ 8 := by
      unfold gss
      rw [List.getD_eq_getElem?_getD, List.getElem?_eq_getElem (show j < outs.length by omega)]
      exact h _ (List.getElem_mem _)
    show offB outs j + _ ≤ _
    omega
theorem resParts_off (ss : List ByteArray) : 1 + offB (resParts ss) (resParts ss).length ≤ 10000000 := by
  obtain ⟨h1, h2⟩ := resParts_le ss
  have := offB_bound (resParts ss) h2 _ (Nat.le_refl _)
  omega

/-- New boards and whether there are any are handed back. -/
def RetBSB (w : World) (outs : List (List ByteArray)) (b : Bool) (e : Ending) (w' : World) : Prop :=
  ∃ A c, e = .returned (.tuple #[.slice A outs.length c, .bool b]) ∧ FrR w' w.heap.size 60 9 (.slice A outs.length c) (outs.map scells) ∧ Below w.heap.size w w'

set_option maxHeartbeats 800000 in
theorem BoardPartsI_any (A : Option Addr) (c : Nat) (ss : List ByteArray) (w : World) (B : Nat) (hB : B ≤ w.heap.size) (h : Rd w B A c (scells ss)) (hsz : Hid (Short ss)) (hn : ss.length ≤ 1048576) :
    Calls Tryd.prog 39 #[.agg #[.slice A ss.length c]] w (RetBSB w (resParts ss) (boardB ss)) := by
  go_enter Tryd.func39, Tryd.ntmps39
  go_wp2_with fail
  obtain ⟨W, hW⟩ : ∃ W, W = w.alloc (.cells #[.slice A ss.length c] 60) := ⟨_, rfl⟩
  have e0 : Blk W w.heap.size 60 #[.slice A ss.length c] := by rw [hW]; exact Blk.new w _ _
  have hAW : Below w.heap.size w W := by rw [hW]; exact bel1 _ _
  have hzW : w.heap.size + 1 ≤ W.heap.size := by rw [hW]; simp
  rw [← hW]
  clear hW
  have hrW := h.below hAW hB
  cases hg : boardB ss
  · have HGB := Lib.hid hg
    have HT : Hid (resParts ss = []) := by show _ = _; rw [resParts, hg]; rfl
    refine (goodBoardI_any A c ss W B (by omega) hrW hsz).mono ?_; rintro e w1 ⟨rfl, hb1⟩
    rw [hg]
    have HB := Lib.hid (gtr hAW hb1)
    go_wp2
    go_ret2
    exact ⟨none, 0, by rw [HT.out, HGB.out]; rfl, by rw [HT.out]; exact FrR.nil (own_none _ _ _), HB.out⟩
  · have HGB := Lib.hid hg
    have HT : Hid (resParts ss = partsB ss) := by show _ = _; rw [resParts, if_pos hg]
    have HBP := Lib.hid (boardB_of hg)
    refine (goodBoardI_any A c ss W B (by omega) hrW hsz).mono ?_; rintro e w1 ⟨rfl, hb1⟩
    rw [hg]
    have f0 := e0.below hb1 e0.lt
    have q0 : w1.cell? ⟨w.heap.size, 0, none⟩ = some (.slice A ss.length c) := f0.cell 0
    have HB := Lib.hid (gtr hAW hb1)
    have hz1 := HB.out.size
    have HP := Lib.hid (partsI_any A c ss w1 B (by omega) (h.below HB.out hB) HBP.out)
    clear hg hb1 hrW
    go_wp2_with fail
    ((with_reducible refine HP.out.mono ?_); rintro e w2 ⟨A2, c2, rfl, fr, hb2⟩)
    have HF := Lib.hid fr; have HB2 := Lib.hid hb2
    clear fr hb2
    go_wp2
    go_ret2
    exact ⟨A2, c2, by rw [HT.out, HGB.out]; rfl, by rw [HT.out]; exact HF.out.le hz1, gtr HB.out HB2.out⟩

set_option maxHeartbeats 800000 in
theorem BoardPartsS_any (A : Option Addr) (c : Nat) (ss : List ByteArray) (w : World) (B : Nat) (hB : B ≤ w.heap.size) (h : Rd w B A c (scells ss)) (hsz : Hid (Short ss)) (hn : ss.length ≤ 1048576) :
    Calls Tryd.prog 37 #[.agg #[.slice A ss.length c]] w (RetBSB w (resParts ss) (boardB ss)) := by
  go_enter Tryd.func37, Tryd.ntmps37
  go_wp2_with fail
  obtain ⟨W, hW⟩ : ∃ W, W = w.alloc (.cells #[.slice A ss.length c] 60) := ⟨_, rfl⟩
  have e0 : Blk W w.heap.size 60 #[.slice A ss.length c] := by rw [hW]; exact Blk.new w _ _
  have hAW : Below w.heap.size w W := by rw [hW]; exact bel1 _ _
  have hzW : w.heap.size + 1 ≤ W.heap.size := by rw [hW]; simp
  rw [← hW]
  clear hW
  have hrW := h.below hAW hB
  cases hg : boardB ss
  · have HGB := Lib.hid hg
    have HT : Hid (resParts ss = []) := by show _ = _; rw [resParts, hg]; rfl
    refine (goodBoardS_any A c ss W B (by omega) hrW hsz).mono ?_; rintro e w1 ⟨rfl, hb1⟩
    rw [hg]
    have HB := Lib.hid (gtr hAW hb1)
    go_wp2
    go_ret2
    exact ⟨none, 0, by rw [HT.out, HGB.out]; rfl, by rw [HT.out]; exact FrR.nil (own_none _ _ _), HB.out⟩
  · have HGB := Lib.hid hg
    have HT : Hid (resParts ss = partsB ss) := by show _ = _; rw [resParts, if_pos hg]
    have HBP := Lib.hid (boardB_of hg)
    refine (goodBoardS_any A c ss W B (by omega) hrW hsz).mono ?_; rintro e w1 ⟨rfl, hb1⟩
    rw [hg]
    have f0 := e0.below hb1 e0.lt
    have q0 : w1.cell? ⟨w.heap.size, 0, none⟩ = some (.slice A ss.length c) := f0.cell 0
    have HB := Lib.hid (gtr hAW hb1)
    have hz1 := HB.out.size
    have HP := Lib.hid (partsS_any A c ss w1 B (by omega) (h.below HB.out hB) HBP.out hsz)
    clear hg hb1 hrW
    go_wp2_with fail
    ((with_reducible refine HP.out.mono ?_); rintro e w2 ⟨A2, c2, rfl, fr, hb2⟩)
    have HF := Lib.hid fr; have HB2 := Lib.hid hb2
    clear fr hb2
    go_wp2
    go_ret2
    exact ⟨A2, c2, by rw [HT.out, HGB.out]; rfl, by rw [HT.out]; exact HF.out.le hz1, gtr HB.out HB2.out⟩

set_option maxRecDepth 100000 in
set_option maxHeartbeats 6400000 in
theorem lawBoardParts (A : Option Addr) (n c : Nat) (zs : List ByteArray) (w : World) (h : IsStrs w A n c zs) :
    Calls Tryd.prog 6 #[.agg #[.slice A n c]] w fun e w' => e = .returned (.bool true) ∧ Below w.heap.size w w' := by
  obtain ⟨hr, hl, hm⟩ := h.rd
  clear h
  generalize zs.take n = ss at hr hl hm
  subst hl
  have h1 := hr.len
  have h2 := hr.max
  rw [scells_len] at h1
  have HM := Lib.hid hm; clear hm
  go_enter Tryd.func6, Tryd.ntmps6
  go_wp2_with fail
  have hzW : w.heap.size < (w.alloc (.cells #[.slice A ss.length c] 55)).heap.size := by simp
  have hAW : Below w.heap.size w (w.alloc (.cells #[.slice A ss.length c] 55)) := (Below.refl _ _).alloc (Nat.le_refl _) _
  have c0W : (w.alloc (.cells #[.slice A ss.length c] 55)).cell? ⟨w.heap.size, 0, none⟩ = some (.slice A ss.length c) := by simp [go_sem]
  generalize w.alloc (.cells #[.slice A ss.length c] 55) = W at *
  have hrW := hr.below hAW (Nat.le_refl _)
  have hle : w.heap.size ≤ W.heap.size := hAW.size
  refine (szBoard_any A c ss W w.heap.size hle hrW HM).mono ?_; rintro e w1 ⟨⟨m, rfl, hmm⟩, hb1⟩
  have g1 : Below W.heap.size W w1 := hb1
  have hs0 := fun w' (hg : Below W.heap.size W w') => (hg.cell (p := ⟨w.heap.size, 0, none⟩) hzW).trans c0W
  have HS0 := Lib.hid hs0; clear hs0 c0W
  have u10 := HS0.out _ g1
  have HMM := Lib.hid hmm; clear hmm
  by_cases hmn : m < 0
  · go_wp2
    go_ret
    exact ⟨rfl, gtr hAW hb1⟩
  · have hsm : ss.length ≤ 1048576 := by have := HMM.out; omega
    have HSH : Hid (Short ss) := by have := HMM.out; rcases this with h | h; exact absurd h hmn; exact h.2.2
    clear HMM
    obtain ⟨ts, hts⟩ : ∃ ts, ts = resParts ss := ⟨_, rfl⟩
    obtain ⟨b, hbb⟩ : ∃ b, b = boardB ss := ⟨_, rfl⟩
    have hoff : 1 + offB ts ts.length ≤ 10000000 := by rw [hts]; exact resParts_off ss
    have HS : Hid (∀ A c V, Rd V V.heap.size A c (scells ss) → Calls Tryd.prog 37 #[.agg #[.slice A ss.length c]] V (RetBSB V ts b)) := fun A c V hr => by rw [hts, hbb]; exact BoardPartsS_any A c ss V _ (Nat.le_refl _) hr HSH hsm
    have HI : Hid (∀ A c V, Rd V V.heap.size A c (scells ss) → Calls Tryd.prog 39 #[.agg #[.slice A ss.length c]] V (RetBSB V ts b)) := fun A c V hr => by rw [hts, hbb]; exact BoardPartsI_any A c ss V _ (Nat.le_refl _) hr HSH hsm
    clear hts hbb
    go_wp2_with fail
    refine (toBoard_any A c ss w1 w.heap.size (by have := hb1.size; omega) (hrW.below g1 hle) hsm).mono ?_; rintro e w2 ⟨A2, c2, rfl, ho2, hb2⟩
    have g2 := gtr g1 hb2
    have u20 := HS0.out _ g2
    clear u10
    go_wp2_with fail
    ((with_reducible refine (HS.out A2 c2 w2 (ho2.rd)).mono ?_); rintro e w3 ⟨A3, c3, rfl, fr3, hb3⟩)
    have r3 := fr3.rdBS
    have g3 := gtr g2 hb3
    have u30 := HS0.out _ g3
    clear u20 fr3 ho2
    go_wp2_with fail
    refine (toBoard_any A c ss w3 w.heap.size (by have := g3.size; omega) (hrW.below g3 hle) hsm).mono ?_; rintro e w4 ⟨A4, c4, rfl, ho4, hb4⟩
    have g4 := gtr g3 hb4
    have r4 := r3.below hb4 (Nat.le_refl _)
    go_wp2_with fail
    have hzV : w4.heap.size < (w4.alloc (.cells #[.slice A4 ss.length c4] 60)).heap.size := by simp
    have hAV : Below w4.heap.size w4 (w4.alloc (.cells #[.slice A4 ss.length c4] 60)) := (Below.refl _ _).alloc (Nat.le_refl _) _
    have c0V : (w4.alloc (.cells #[.slice A4 ss.length c4] 60)).cell? ⟨w4.heap.size, 0, none⟩ = some (.slice A4 ss.length c4) := by simp [go_sem]
    generalize w4.alloc (.cells #[.slice A4 ss.length c4] 60) = V at *
    have g5 := gtr g4 hAV
    have ho5 := ho4.below hAV
    have r5 := r4.below hAV hb4.size
    have HLT4 := Lib.hid (fun g hg => ho4.lt g hg)
    ((with_reducible refine (HI.out A4 c4 V (ho5.rd)).mono ?_); rintro e w5 ⟨A5, c5, rfl, fr5, hb5⟩)
    have hz3 := hb4.size
    have hz4 := hAV.size
    have g6 := gtr g5 hb5
    have ho6 := ho5.below hb5
    have r6 := r5.below hb5 (by omega)
    have hs0 := fun w' (hg : Below V.heap.size V w') => (hg.cell (p := ⟨w4.heap.size, 0, none⟩) hzV).trans c0V
    have HV0 := Lib.hid hs0; clear hs0 c0V u30 r3 r4 r5 ho4 ho5
    have hz5 := hb5.size
    cases b
    all_goals
      go_wp2_with fail
      ((with_reducible refine (eqBS_same A5 A3 c5 c3 ts w5 _ (Nat.le_refl _) fr5.rdBS (r6.more (by omega))).mono ?_); rintro e w6 ⟨rfl, hb6⟩)
      have g7 := gtr g6 hb6
      have hbV6 := gtr hb5 hb6
      have v0 := HS0.out _ g7
      have x0 := HV0.out _ hbV6
      have ho7 := ho6.below hb6
      have r7 := r6.below hb6 (by omega)
      have fr7 := fr5.below hb6
      have hz6 := hb6.size
      have hW6 : w.heap.size ≤ w6.heap.size := by have := g7.size; omega
      clear ho6 r6 fr5
      go_wp2
      go_region_held3 (fun w' => w'.cell? ⟨w.heap.size, 0, none⟩ = some (.slice A ss.length c) ∧ w'.cell? ⟨w4.heap.size, 0, none⟩ = some (.slice A4 ss.length c4)) (go_keep)
        (first
          | (go_at_call 38; refine (toBoard_any A c ss w6.drew w.heap.size (by show _ ≤ w6.heap.size; omega) (hrW.below (gtr g7 (gdrew (a := w6))) hle) hsm).mono ?_; rintro e w7 ⟨A7, c7, rfl, hoe, hb7⟩; have g8 := gtr (gdrew (a := w6)) hb7; have s0 := HS0.out _ (gtr g7 g8); have s2 := HV0.out _ (gtr hbV6 g8))
          | (go_at_call 41; refine (eqBoard_same A4 A7 c4 c7 ss w7 w7.heap.size (Nat.le_refl _) ((ho7.below g8).rd) hoe.rd).mono ?_; rintro e w8 ⟨rfl, hb8⟩; have g9 := gtr g8 hb8; have t0 := HS0.out _ (gtr g7 g9); have t2 := HV0.out _ (gtr hbV6 g9)))
      have ho8 := ho7.below g9
      have r8 := r7.below g9 (by omega)
      have fr8 := fr7.below g9
      have g10 := gtr g7 g9
      have gV8 := gtr hbV6 g9
      have hz8 := g9.size
      clear s0 s2 t0 v0 x0 hoe hb7 hb8 ho7 r7 fr7
      go_wp2_with fail
      ((with_reducible refine (markBoard_any A4 c4 ss w8 _ ho8 (by omega) (by omega)).mono ?_); rintro e w9 ⟨rfl, ho9, hg9⟩)
      have hne4 : ∀ g, (Value.slice A4 ss.length c4).ownBlock = some g → w3.heap.size ≤ g ∧ g < w4.heap.size := fun g hg => HLT4.out g hg
      have r9 := r8.grownUp hg9 (by omega) (fun g hg => (hne4 g hg).1)
      have fr9 := fr8.grownLow hg9 (fun g hg => by have := (hne4 g hg).2; omega)
      have hz9 := hg9.size
      have g11 : Below W.heap.size W w9 := g10.grown hg9 (by have := g10.size; omega) fun g hg => by have := (hne4 g hg).1; have := g3.size; omega
      clear t2 r8 fr8 ho8 ho9 hg9
      have hk0 : ¬ ((1 + ss.length : Nat) : Int) < 0 := by omega
      go_wp2_with fail
      ((with_reducible refine (eqBS_same A5 A3 c5 c3 ts w9 _ (Nat.le_refl _) fr9.rdBS (r9.more (by omega))).mono ?_); rintro e w10 ⟨rfl, hb10⟩)
      have g12 := gtr g11 hb10
      have r10 := r9.below hb10 (by omega)
      have fr10 := fr9.below hb10
      have hz10 := hb10.size
      clear r9 fr9
      obtain ⟨K, hK⟩ : ∃ K, K = 1 + offB ts ts.length := ⟨_, rfl⟩
      obtain ⟨ms, hms⟩ : ∃ ms, ms = mkBS 1 ts ts.length := ⟨_, rfl⟩
      have hml : ms.length = ts.length := by rw [hms, mkBS_len]
      have HMK : Hid (Calls Tryd.prog 43 #[.slice A5 ts.length c5, .int .i64 1] w10 fun e w' => e = .returned (.int .i64 K) ∧ FrR w' V.heap.size 60 9 (.slice A5 ts.length c5) (ms.map scells) ∧ Below V.heap.size w10 w') := by
        have := markBS_any A5 c5 ts 1 w10 V.heap.size fr10 (by omega) (by decide) hoff
        rw [← hK, ← hms] at this
        exact this
      have HHD : Hid (∀ W, RdBS W W.heap.size A5 c5 ms → Calls Tryd.prog 44 #[.slice A5 ts.length c5, .int .i64 1] W fun e w' => e = .returned (.int .i64 K) ∧ Below W.heap.size W w') := fun W hr => by
        rw [hms] at hr
        have := heldBS_any A5 c5 ts 1 W _ (Nat.le_refl _) hr (by decide) hoff
        rw [← hK] at this
        exact this
      clear hK hms
      have hKn : ¬ (K : Int) < 0 := by omega
      have hKe : ((K : Int) != (K : Int)) = false := by simp
      go_wp2_with fail
      ((with_reducible refine (HMK.out).mono ?_); rintro e w11 ⟨rfl, fr11, hb11⟩)
      have hz11 := hb11.size
      have R11 : RdBS w11 w11.heap.size A5 c5 ms := fr11.rdBS
      have r11 := r10.below hb11 (by omega)
      have g13 : Below W.heap.size W w11 := g12.trans (hb11.mono (by have := g4.size; omega))
      clear fr11 fr10 r10 hb11
      go_wp2_with fail
      ((with_reducible refine (HHD.out _ R11).mono ?_); rintro e w12 ⟨rfl, hb12⟩)
      have g14 := gtr g13 hb12
      have r12 := r11.below hb12 (by omega)
      have R12 := R11.below hb12 (Nat.le_refl _)
      have hz12 := hb12.size
      have y0 := HS0.out _ g14
      have hW12 : w.heap.size ≤ w12.heap.size := by have := g14.size; omega
      clear R11 r11 hb12
      go_wp2_with fail
      refine (toBoard_any A c ss w12 w.heap.size hW12 (hrW.below g14 hle) hsm).mono ?_; rintro e w13 ⟨A13, c13, rfl, ho13, hb13⟩
      have g15 := gtr g14 hb13
      have r13 := r12.below hb13 (by omega)
      have R13 := R12.below hb13 (by omega)
      have hz13 := hb13.size
      clear r12 R12 hb13 y0
      go_wp2_with fail
      ((with_reducible refine (HI.out A13 c13 w13 (ho13.rd)).mono ?_); rintro e w14 ⟨A14, c14, rfl, fr14, hb14⟩)
      have r14 := fr14.rdBS
      have g16 := gtr g15 hb14
      have r15 := r13.below hb14 (by omega)
      have R15 := R13.below hb14 (by omega)
      have hz14 := hb14.size
      clear r13 R13 hb14 ho13 fr14
      go_wp2_with fail
      ((with_reducible refine (eqBS_same A14 A3 c14 c3 ts w14 _ (Nat.le_refl _) r14 (r15.more (by omega))).mono ?_); rintro e w15 ⟨rfl, hb15⟩)
      have g17 := gtr g16 hb15
      have R16 := R15.below hb15 (by omega)
      have hz15 := hb15.size
      clear R15 r14 r15 hb15
      go_wp2_with fail
      ((with_reducible refine (HHD.out _ (R16.more (by omega))).mono ?_); rintro e w16 ⟨rfl, hb16⟩)
      have g18 := gtr g17 hb16
      go_wp2
      go_ret
      exact ⟨rfl, gtr hAW g18⟩
end Go.Proofs.YtadljglcbieifaaDoor
