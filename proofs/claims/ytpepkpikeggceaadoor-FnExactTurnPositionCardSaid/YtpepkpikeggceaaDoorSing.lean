/- Whether a text is a single: the reference's test, by contract. Conditions: none. -/
import Derived.Test.YtpepkpikeggceaaDoorVerb
import Derived.Test.YtpepkpikeggceaaDoorFree
import Derived.Test.YtpepkpikeggceaaDoorRead2
import Derived.Test.YtpepkpikeggceaaDoorStrip
import Derived.Test.YtpepkpikeggceaaDoorRn2
namespace Go.Proofs.YtpepkpikeggceaaDoor
open Go.RowKit
set_option linter.unusedVariables false

/-- Whether a verb's rest is good. -/
noncomputable def kB (k : Int) (t : ByteArray) : Bool :=
  if k < 0 then false else if k ≤ 3 then stripB k t && decide (t.size ≤ 7) else if k = 4 then boardB (pieces 47 t) && decide (fr (brows (pieces 47 t)) ≤ 9) else if k = 5 then signsB t 8 else rnB t && inB (rnV t) 0 7
theorem kB_no {k : Int} {t : ByteArray} (h : k < 0) : kB k t = false := by unfold kB; rw [if_pos h]
theorem kB_strip {k : Int} {t : ByteArray} (h : ¬ k < 0) (h3 : k ≤ 3) : kB k t = (stripB k t && decide (t.size ≤ 7)) := by unfold kB; rw [if_neg h, if_pos h3]
theorem kB_dom {t : ByteArray} : kB 4 t = (boardB (pieces 47 t) && decide (fr (brows (pieces 47 t)) ≤ 9)) := by unfold kB; rw [if_neg (by decide), if_neg (by decide), if_pos rfl]
theorem kB_stalk {t : ByteArray} : kB 5 t = signsB t 8 := by unfold kB; rw [if_neg (by decide), if_neg (by decide), if_neg (by decide), if_pos rfl]
theorem kB_nim {t : ByteArray} : kB 6 t = (rnB t && inB (rnV t) 0 7) := by unfold kB; rw [if_neg (by decide), if_neg (by decide), if_neg (by decide), if_neg (by decide)]
theorem VbV.size {s t : ByteArray} {k : Int} (h : VbV s k t) : t.size ≤ s.size ∧ -1 ≤ k ∧ k ≤ 6 := by
  rcases h with ⟨n, rfl, hn, h, -⟩ | ⟨rfl, rfl, -⟩
  · have := data_len s
    unfold isVb at h
    have ht := data_len t
    rw [h, List.length_append, List.length_cons] at this
    omega
  · exact ⟨Nat.zero_le _, by omega, by omega⟩

set_option maxRecDepth 100000 in
set_option maxHeartbeats 1600000 in
theorem singleS_any (s : ByteArray) (w : World) (hmax : s.size ≤ 1048576) :
    Calls Tryd.prog 15 #[.string s] w fun e w' => (∃ k t, VbV s k t ∧ e = .returned (.bool (kB k t))) ∧ Below w.heap.size w w' := by
  have HCUT := Lib.hid (l24Cut_any s w hmax)
  go_enter Tryd.func15, Tryd.ntmps15
  go_wp2_with fail
  ((with_reducible refine (HCUT.out).mono ?_); rintro e w1 ⟨⟨k, t, rfl, hvb⟩, hb1⟩)
  obtain ⟨hts, hk1, hk6⟩ := hvb.size
  have HVB := Lib.hid hvb
  have htm : t.size ≤ 1048576 := by omega
  have htM : t.size ≤ maxLen := by unfold maxLen; omega
  clear hvb HCUT
  by_cases h0 : k < 0
  · have HK : Hid (kB k t = false) := Lib.hid (kB_no h0)
    clear htM
    go_wp2
    go_ret
    exact ⟨⟨k, t, HVB.out, by rw [HK.out]; rfl⟩, hb1⟩
  by_cases h3 : k ≤ 3
  · have HK : Hid (kB k t = (stripB k t && decide (t.size ≤ 7))) := Lib.hid (kB_strip h0 h3)
    have HST := Lib.hid fun W => goodStripS_any k t W htM
    clear htM
    cases hs : stripB k t
    · have HK2 : Hid (kB k t = false) := Lib.hid (by rw [HK.out, hs]; rfl)
      rw [hs] at HST
      clear hs HK
      go_wp2_with fail
      ((with_reducible refine (HST.out _).mono ?_); rintro e w2 ⟨rfl, rfl⟩)
      go_wp2
      go_ret
      exact ⟨⟨k, t, HVB.out, by rw [HK2.out]; rfl⟩, hb1⟩
    · rw [hs] at HST
      have HK2 : Hid (kB k t = decide ((t.size : Int) ≤ 7)) := Lib.hid (by rw [HK.out, hs, Bool.true_and]; exact decide_eq_decide.2 (by omega))
      clear hs HK
      go_wp2_with fail
      ((with_reducible refine (HST.out _).mono ?_); rintro e w2 ⟨rfl, rfl⟩)
      go_wp2
      go_ret
      exact ⟨⟨k, t, HVB.out, by rw [HK2.out]; rfl⟩, hb1⟩
  have h456 : k = 4 ∨ k = 5 ∨ k = 6 := by omega
  clear h0 h3 hk1 hk6
  rcases h456 with rfl | rfl | rfl
  · have HRD := Lib.hid fun W => readS_any t W htm
    cases hbd : boardB (pieces 47 t)
    · have HK : Hid (kB 4 t = false) := Lib.hid (by rw [kB_dom, hbd]; rfl)
      rw [hbd] at HRD
      clear hbd htM
      generalize resRead t = rs at *
      go_wp2_with fail
      ((with_reducible refine (HRD.out _).mono ?_); rintro e w2 ⟨A, c, rfl, ho2, hb2⟩)
      clear ho2
      go_wp2
      go_ret
      exact ⟨⟨4, t, HVB.out, by rw [HK.out]; rfl⟩, (gtr hb1 hb2).trans ((bel1 w2 _).mono (gtr hb1 hb2).size)⟩
    · have HK : Hid (kB 4 t = decide (fr (brows (pieces 47 t)) ≤ 9)) := Lib.hid (by rw [kB_dom, hbd]; rfl)
      have hrr : resRead t = pieces 47 t := by unfold resRead; rw [if_pos hbd]
      rw [hbd, hrr] at HRD
      have hbp := boardB_of hbd
      have HFR := Lib.hid fun (A : Option Addr) (c : Nat) (W : World) (h : Rd W W.heap.size A c (scells (pieces 47 t))) => free_any A c (pieces 47 t) W W.heap.size (Nat.le_refl _) h hbp
      have hpl := hbp.1.2
      clear hbd htM hrr hbp
      obtain ⟨ps, hps⟩ : ∃ ps, ps = pieces 47 t := ⟨_, rfl⟩
      rw [← hps] at HRD HFR HK hpl
      obtain ⟨n, hn⟩ : ∃ n, n = fr (brows ps) := ⟨_, rfl⟩
      rw [← hn] at HFR HK
      clear hps hn
      go_wp2_with fail
      ((with_reducible refine (HRD.out _).mono ?_); rintro e w2 ⟨A, c, rfl, ho2, hb2⟩)
      have hbx := bel1 w2 (.cells #[.slice A ps.length c] 45)
      have hrd := (Own.rd (ho2.below hbx))
      have g2 := gtr (gtr hb1 hb2) hbx
      clear ho2 hb2 hb1
      have HK2 : Hid (kB 4 t = decide ((n : Int) ≤ 9)) := Lib.hid (by rw [HK.out]; exact decide_eq_decide.2 (by omega))
      clear HK
      go_wp2_with fail
      ((with_reducible refine (HFR.out _ _ _ hrd).mono ?_); rintro e w3 ⟨rfl, hb3⟩)
      go_wp2
      go_ret
      exact ⟨⟨4, t, HVB.out, by rw [HK2.out]; rfl⟩, gtr g2 hb3⟩
  · have HSG := Lib.hid fun W => signsS_any t 8 W htM
    have HK : Hid (kB 5 t = signsB t 8) := Lib.hid kB_stalk
    obtain ⟨b, hb⟩ : ∃ b, b = signsB t 8 := ⟨_, rfl⟩
    rw [← hb] at HSG HK
    clear hb htM
    go_wp2_with fail
    ((with_reducible refine (HSG.out _).mono ?_); rintro e w2 ⟨rfl, rfl⟩)
    go_wp2
    go_ret
    exact ⟨⟨5, t, HVB.out, by rw [HK.out]; rfl⟩, hb1⟩
  · have HRD := Lib.hid fun W => l1Read_any t W htm
    have HK : Hid (kB 6 t = (rnB t && inB (rnV t) 0 7)) := Lib.hid kB_nim
    obtain ⟨x, hx⟩ : ∃ x, x = rnV t := ⟨_, rfl⟩
    rw [← hx] at HRD HK
    clear hx htM
    cases hok : rnB t
    · rw [hok] at HRD HK
      have HK2 : Hid (kB 6 t = false) := Lib.hid (by rw [HK.out]; rfl)
      clear hok HK
      go_wp2_with fail
      ((with_reducible refine (HRD.out _).mono ?_); rintro e w2 ⟨rfl, hb2⟩)
      go_wp2
      go_ret
      exact ⟨⟨6, t, HVB.out, by rw [HK2.out]; rfl⟩, gtr hb1 hb2⟩
    · rw [hok] at HRD HK
      have HK2 : Hid (kB 6 t = inB x 0 7) := Lib.hid (by rw [HK.out]; rfl)
      have HIN := Lib.hid fun W => l1In_any x 0 7 W
      obtain ⟨bi, hbi⟩ : ∃ bi, bi = inB x 0 7 := ⟨_, rfl⟩
      rw [← hbi] at HIN HK2
      clear hok HK hbi
      go_wp2_with fail
      ((with_reducible refine (HRD.out _).mono ?_); rintro e w2 ⟨rfl, hb2⟩)
      go_wp2_with (go_at_call 37; (with_reducible refine (HIN.out _).mono ?_); rintro e w3 ⟨rfl, rfl⟩)
      go_ret
      exact ⟨⟨6, t, HVB.out, by rw [HK2.out]; rfl⟩, gtr hb1 hb2⟩
end Go.Proofs.YtpepkpikeggceaaDoor
