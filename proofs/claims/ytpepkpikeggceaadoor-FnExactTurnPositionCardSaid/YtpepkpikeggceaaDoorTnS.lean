/- A single turned, by contract: the reference's. Conditions: none. -/
import Derived.Test.YtpepkpikeggceaaDoorTnI
namespace Go.Proofs.YtpepkpikeggceaaDoor
open Go.RowKit
set_option linter.unusedVariables false

/-- A single as the other player sees it. -/
def trn (s : ByteArray) : ByteArray := (kd s ++ ⟨#[32]⟩) ++ tnd (kd s) (ar s)
theorem turnL_len (k : Int) (t : ByteArray) : (turnL k t).length ≤ t.size := by
  unfold turnL
  split
  · split
    · rw [List.length_reverse, List.length_map, data_len]; exact Nat.le_refl _
    · rw [List.length_map, data_len]; exact Nat.le_refl _
  · exact Nat.zero_le _
theorem tnd_short {a t : ByteArray} (h : gdB a t = true) : (tnd a t).size ≤ 72 := by
  have hs := (gd_short a t h).2
  unfold tnd
  split
  · rename_i h0
    have hb : boardB (pieces 47 t) = true := by unfold gdB at h; rw [if_pos h0, Bool.and_eq_true] at h; exact h.1
    obtain ⟨h1, h2, h3⟩ := turn_rows hb
    have hj := jl_len (resTurnBoard (pieces 47 t)) h3 _ (Nat.le_refl _)
    rw [List.take_length] at hj
    show (jl (resTurnBoard (pieces 47 t))).length ≤ 72
    omega
  · split
    · rw [str_size, List.length_map, data_len]; omega
    · split
      · omega
      · rw [str_size]
        have := turnL_len (skOf a) t
        omega
theorem vb_kdar {s t : ByteArray} {n : Nat} (hn : n < 7) (h : isVb s n t.data.toList) : kd s = gs verbs n ∧ ar s = t := by
  obtain ⟨h1, h2⟩ := kdar h (verb_free hn)
  exact ⟨h1.trans (str_back _), h2.trans (str_back _)⟩
theorem tnd_strip {n : Nat} (hn : n ≤ 3) (t : ByteArray) : tnd (gs verbs n) t = str (turnL n t) := by
  have : n = 0 ∨ n = 1 ∨ n = 2 ∨ n = 3 := by omega
  rcases this with rfl | rfl | rfl | rfl
  · show tnd ⟨#[116, 111, 97, 100, 115]⟩ t = _
    have hs : skOf ⟨#[116, 111, 97, 100, 115]⟩ = 0 := by unfold skOf; simp [ByteArray.toList_eq]
    unfold tnd
    rw [hs]
    simp [ByteArray.toList_eq]
  · show tnd ⟨#[99, 108, 111, 98]⟩ t = _
    have hs : skOf ⟨#[99, 108, 111, 98]⟩ = 1 := by unfold skOf; simp [ByteArray.toList_eq]
    unfold tnd
    rw [hs]
    simp [ByteArray.toList_eq]
  · show tnd ⟨#[117, 110, 108, 105, 107, 101]⟩ t = _
    have hs : skOf ⟨#[117, 110, 108, 105, 107, 101]⟩ = 2 := by unfold skOf; simp [ByteArray.toList_eq]
    unfold tnd
    rw [hs]
    simp [ByteArray.toList_eq]
  · show tnd ⟨#[97, 108, 105, 107, 101]⟩ t = _
    have hs : skOf ⟨#[97, 108, 105, 107, 101]⟩ = 3 := by unfold skOf; simp [ByteArray.toList_eq]
    unfold tnd
    rw [hs]
    simp [ByteArray.toList_eq]
theorem tnd_dom (t : ByteArray) : tnd (gs verbs 4) t = ⟨(jl (resTurnBoard (pieces 47 t))).toArray⟩ := by
  show tnd ⟨#[100, 111, 109]⟩ t = _
  unfold tnd
  simp [ByteArray.toList_eq]
theorem tnd_stalk {t : ByteArray} (h : kB 5 t = true) : tnd (gs verbs 5) t = str (turnL 2 t) := by
  have e : tnd (gs verbs 5) t = str (t.data.toList.map (swp 76 82)) := by
    show tnd ⟨#[115, 116, 97, 108, 107]⟩ t = _
    unfold tnd
    simp [ByteArray.toList_eq]
  rw [e]
  rw [kB_stalk, signsB, Bool.and_eq_true] at h
  have h2 := of_decide_eq_true h.2
  have hall : allIn (marksOf 2) t = true := by
    unfold allIn at *
    rw [List.all_eq_true] at *
    intro b hb
    have := h.1 b hb
    simp [marksOf] at this ⊢
    rcases this with e | e <;> simp [e]
  have hst : stripB 2 t = true := by rw [stripB_mk (by omega) (by omega) (by omega)]; exact hall
  unfold turnL
  rw [if_pos hst, if_neg (by decide)]
  exact congrArg str (map_in (cs := [76, 82]) (by decide) h.1)
theorem tnd_nim (t : ByteArray) : tnd (gs verbs 6) t = t := by
  show tnd ⟨#[110, 105, 109]⟩ t = _
  unfold tnd
  simp [ByteArray.toList_eq]

set_option maxHeartbeats 3200000 in
theorem turnSingle_any (s : ByteArray) (w : World) (hs : s.size ≤ 1048576) (hg : sgB s = true) :
    Calls Tryd.prog 11 #[.string s] w fun e w' => e = .returned (.string (trn s)) ∧ Below w.heap.size w w' := by
  have HC := Lib.hid (l24Cut_any s w hs)
  have HG := Lib.hid hg
  clear hg
  obtain ⟨y, hy⟩ : ∃ y, y = trn s := ⟨_, rfl⟩
  rw [← hy]
  have HY := Lib.hid hy
  clear hy
  go_enter Tryd.func11, Tryd.ntmps11
  go_wp2_with fail
  ((with_reducible refine HC.out.mono ?_); rintro e w1 ⟨⟨k, t, rfl, hv⟩, hb1⟩)
  have hkb : kB k t = true := (sg_of hv).trans HG.out
  have hts := hv.size.1
  rcases hv with ⟨n, rfl, hn, hvb, -⟩ | ⟨rfl, rfl, hno⟩
  · obtain ⟨e1, e2⟩ := vb_kdar hn hvb
    have HV := Lib.hid fun W => verbs_any W
    have hsh := verbs_short hn
    have hgd : gdB (gs verbs n) t = true := (gd_verb n hn t).trans hkb
    have htn := tnd_short hgd
    have HT : Hid (y = (gs verbs n ++ ⟨#[32]⟩) ++ tnd (gs verbs n) t) := Lib.hid (by rw [HY.out]; unfold trn; rw [e1, e2])
    clear hvb e1 e2 HC HG HY
    obtain ⟨v, hv⟩ : ∃ v, v = gs verbs n := ⟨_, rfl⟩
    obtain ⟨tt, htt⟩ : ∃ tt, tt = tnd (gs verbs n) t := ⟨_, rfl⟩
    have HVN : Hid (v = gs verbs n) := Lib.hid hv
    have HTT := Lib.hid htt
    rw [← htt] at HT htn
    rw [← hv] at HT hsh
    obtain ⟨x1, hx1⟩ : ∃ x1, x1 = v ++ ⟨#[32]⟩ := ⟨_, rfl⟩
    have hadd1 := fun w => run_string_add_sum (P := Tryd.prog) w v ⟨#[32]⟩ (by show v.size + 1 ≤ _; omega)
    rw [← hx1] at hadd1 HT
    have hxs : x1.size ≤ 7 := by rw [hx1, ByteArray.size_append]; show v.size + 1 ≤ 7; omega
    have hadd2 := fun w => run_string_add_sum (P := Tryd.prog) w x1 tt (by omega)
    rw [← HT.out] at hadd2
    clear hx1 hv htt HT hgd
    have hncases : n ≤ 3 ∨ n = 4 ∨ n = 5 ∨ n = 6 := by omega
    rcases hncases with h3 | h4 | h5 | h6
    · have h3I : (n : Int) ≤ 3 := by omega
      have hTS := fun W => turnS_any n t W (by unfold maxLen; omega)
      rw [← tnd_strip h3, ← HTT.out] at hTS
      have HTS := Lib.hid hTS
      obtain ⟨bb, hbb⟩ : ∃ bb, bb = stripB n t := ⟨_, rfl⟩
      rw [← hbb] at HTS
      clear hTS hbb hkb HTT
      go_wp2_with fail
      ((with_reducible refine (HTS.out _).mono ?_); rintro e w2 ⟨rfl, rfl⟩)
      go_wp2_with fail
      ((with_reducible refine (HV.out _).mono ?_); rintro e w9 ⟨A9, c9, rfl, hr9, hb9⟩)
      have hl9 := hr9.1
      have hm9 := hr9.max
      have hc9 : 7 ≤ c9 := by simpa [scells, verbs] using hl9
      obtain ⟨b9, o9, rfl, hbB9, hcc9⟩ := hr9.at (j := n) (by rw [scells_len]; show n < 7; omega)
      have hck := hcc9 n (.string (gs verbs n)) (gs_at verbs n hn)
      rw [← HVN.out] at hck
      have hbw := gtr hb1 hb9
      have hnI : (n : Int) < 7 := by omega
      have h0I : (0 : Int) ≤ (n : Int) := by omega
      clear hcc9 hr9 HV hl9
      go_wp2
      go_ret
      exact ⟨rfl, hbw⟩
    · subst h4
      have hk4 : kB 4 t = true := hkb
      have hbb : boardB (pieces 47 t) = true := by rw [kB_dom, Bool.and_eq_true] at hk4; exact hk4.1
      have HBB := Lib.hid hbb
      have HRD := Lib.hid fun W => readS_any t W (by omega)
      have hrr : resRead t = pieces 47 t := by unfold resRead; rw [if_pos hbb]
      rw [hrr, hbb] at HRD
      have HP := Lib.hid (pieces_short 47 t (by omega))
      have HPL := Lib.hid ((boardB_of hbb).1.2)
      have HTR := Lib.hid (turn_rows hbb)
      rw [tnd_dom] at HTT
      clear hkb hk4 hbb hrr
      go_wp2_with fail
      ((with_reducible refine (HRD.out _).mono ?_); rintro e w2 ⟨A2, c2, rfl, ho2, hb2⟩)
      obtain ⟨rs, hrs⟩ : ∃ rs, rs = resTurnBoard (pieces 47 t) := ⟨_, rfl⟩
      have HTB := Lib.hid fun W (h : Below w2.heap.size w2 W) => TurnBoardS_any A2 c2 (pieces 47 t) W w2.heap.size h.size (ho2.rd.below h (Nat.le_refl _)) HP.out (by have := HPL.out; omega)
      rw [HBB.out, ← hrs] at HTB
      rw [← hrs] at HTT HTR
      have hB2 := gtr hb1 hb2
      clear hrs HRD HP HPL HBB ho2
      go_wp2_with fail
      obtain ⟨W, hW⟩ : ∃ W, W = w2.alloc (.cells #[.slice A2 (pieces 47 t).length c2] 45) := ⟨_, rfl⟩
      have i0 : Blk W w2.heap.size 45 #[.slice A2 (pieces 47 t).length c2] := by rw [hW]; exact Blk.new _ _ _
      have hAW : Below w2.heap.size w2 W := by rw [hW]; exact bel1 _ _
      rw [← hW]
      clear hW
      ((with_reducible refine (HTB.out W hAW).mono ?_); rintro e w4 ⟨A4, c4, rfl, ho4, hb4⟩)
      have i4 := i0.below hb4 i0.lt
      have s0 : w4.cell? ⟨w2.heap.size, 0, none⟩ = some (.slice A2 (pieces 47 t).length c2) := i4.cell 0
      have sf0 : w4.frozen? ⟨w2.heap.size, 0, none⟩ = false := i4.frozen 0
      have ho5 := ho4.far' ⟨w2.heap.size, 0, none⟩ (.slice A4 rs.length c4) i0.lt
      have i5 := i4.set 0 (.slice A4 rs.length c4)
      have s5 : (w4.setCell ⟨w2.heap.size, 0, none⟩ (.slice A4 rs.length c4)).cell? ⟨w2.heap.size, 0, none⟩ = some (.slice A4 rs.length c4) := i5.cell 0
      have hB5 : Below w.heap.size w (w4.setCell ⟨w2.heap.size, 0, none⟩ (.slice A4 rs.length c4)) := (gtr hB2 (gtr hAW hb4)).setCell (by have := hB2.size; show w.heap.size ≤ w2.heap.size; omega) _
      have HTX := Lib.hid (textS_any A4 c4 rs (w4.setCell ⟨w2.heap.size, 0, none⟩ (.slice A4 rs.length c4)) _ (Nat.le_refl _) ho5.rd HTR.out.1 HTR.out.2.1 (Lib.hid HTR.out.2.2))
      rw [← HTT.out] at HTX
      clear HTB HTR HTT ho4 ho5 i4 i5 i0 hb4 hAW
      go_wp2_with fail
      ((with_reducible refine HTX.out.mono ?_); rintro e w6 ⟨rfl, hb6⟩)
      have hB6 := gtr hB5 hb6
      clear s0 sf0 s5 HTX hB5 hb6
      go_wp2_with fail
      ((with_reducible refine (HV.out _).mono ?_); rintro e w9 ⟨A9, c9, rfl, hr9, hb9⟩)
      have hl9 := hr9.1
      have hm9 := hr9.max
      have hc9 : 7 ≤ c9 := by simpa [scells, verbs] using hl9
      obtain ⟨b9, o9, rfl, hbB9, hcc9⟩ := hr9.at (j := 4) (by rw [scells_len]; show 4 < 7; omega)
      have hck := hcc9 4 (.string (gs verbs 4)) (gs_at verbs 4 hn)
      rw [← HVN.out] at hck
      have hbw := gtr hB6 hb9
      have hnI : (4 : Int) < 7 := by omega
      have h0I : (0 : Int) ≤ (4 : Int) := by omega
      clear hcc9 hr9 HV hl9
      go_wp2
      go_ret
      exact ⟨rfl, hbw⟩
    · subst h5
      have hk5 : kB 5 t = true := hkb
      have hTS := fun W => turnS_any 2 t W (by unfold maxLen; omega)
      rw [← tnd_stalk hk5, ← HTT.out] at hTS
      have HTS := Lib.hid hTS
      obtain ⟨bb, hbb⟩ : ∃ bb, bb = stripB 2 t := ⟨_, rfl⟩
      rw [← hbb] at HTS
      clear hTS hbb hkb hk5 HTT
      go_wp2_with fail
      ((with_reducible refine (HTS.out _).mono ?_); rintro e w2 ⟨rfl, rfl⟩)
      go_wp2_with fail
      ((with_reducible refine (HV.out _).mono ?_); rintro e w9 ⟨A9, c9, rfl, hr9, hb9⟩)
      have hl9 := hr9.1
      have hm9 := hr9.max
      have hc9 : 7 ≤ c9 := by simpa [scells, verbs] using hl9
      obtain ⟨b9, o9, rfl, hbB9, hcc9⟩ := hr9.at (j := 5) (by rw [scells_len]; show 5 < 7; omega)
      have hck := hcc9 5 (.string (gs verbs 5)) (gs_at verbs 5 hn)
      rw [← HVN.out] at hck
      have hbw := gtr hb1 hb9
      have hnI : (5 : Int) < 7 := by omega
      have h0I : (0 : Int) ≤ (5 : Int) := by omega
      clear hcc9 hr9 HV hl9
      go_wp2
      go_ret
      exact ⟨rfl, hbw⟩
    · subst h6
      rw [tnd_nim] at HTT
      have e := HTT.out
      subst e
      clear hkb HTT
      go_wp2_with fail
      ((with_reducible refine (HV.out _).mono ?_); rintro e w9 ⟨A9, c9, rfl, hr9, hb9⟩)
      have hl9 := hr9.1
      have hm9 := hr9.max
      have hc9 : 7 ≤ c9 := by simpa [scells, verbs] using hl9
      obtain ⟨b9, o9, rfl, hbB9, hcc9⟩ := hr9.at (j := 6) (by rw [scells_len]; show 6 < 7; omega)
      have hck := hcc9 6 (.string (gs verbs 6)) (gs_at verbs 6 hn)
      rw [← HVN.out] at hck
      have hbw := gtr hb1 hb9
      have hnI : (6 : Int) < 7 := by omega
      have h0I : (0 : Int) ≤ (6 : Int) := by omega
      clear hcc9 hr9 HV hl9
      go_wp2
      go_ret
      exact ⟨rfl, hbw⟩
  · rw [kB_no (by omega)] at hkb
    cases hkb
end Go.Proofs.YtpepkpikeggceaaDoor
