/- Flooding a grid of marks: the reference's walk. Conditions: none. -/
import Derived.Test.YtadljglcbieifaaDoorComp
import Derived.Test.YtadljglcbieifaaDoorIn
namespace Go.Proofs.YtadljglcbieifaaDoor
open Go.RowKit
set_option linter.unusedVariables false

def frG (bss : List (List Bool)) (i k : Int) : Bool := decide (0 ≤ i ∧ i < bss.length ∧ 0 ≤ k ∧ k < (gb bss 0).length) && getM bss i.toNat k.toNat
theorem inR_frG {R C : Nat} {bss : List (List Bool)} (hM : Grid R C bss) (hR : 0 < R) : InR R C (frG bss) := by
  intro i k h
  unfold frG at h
  have h0 : (gb bss 0).length = C := hM.2 0 hR
  have h1 := hM.1
  rw [h0, h1] at h
  simp at h
  omega
theorem GrC.rdB {w : World} {lo n c : Nat} {A : Option Addr} {cs : List Value} {M : List (List Bool)} (h : GrC w lo (.slice A n c) cs M) : RdB w w.heap.size A c M := by
  have hl := h.len
  obtain ⟨h1, h2, h3⟩ := h
  refine ⟨cs, h1.rd, hl, fun i hi => ?_⟩
  obtain ⟨Ai, ci, k1, k2⟩ := h2.2.1 i (by rw [List.length_map]; exact hi)
  rw [gc_bools, bools_len] at k1
  rw [gc_bools] at k2
  exact ⟨Ai, ci, k1, k2.rd⟩
theorem RdB.rows {w w' : World} {B c lo : Nat} {A : Option Addr} {cs : List Value} {v : Value} {bss M : List (List Bool)} (h : RdB w B A c bss) (hg : GrC w lo v cs M) (hr : Rows w w' cs) (hB : B ≤ lo) (hlo : lo ≤ w.heap.size) : RdB w' B A c bss := by
  obtain ⟨ds, h1, h2, h3⟩ := h
  exact ⟨ds, h1.rows hg hr hB hlo, h2, fun i hi => by obtain ⟨Ai, ci, k1, k2⟩ := h3 i hi; exact ⟨Ai, ci, k1, k2.rows hg hr hB hlo⟩⟩
theorem RdB.get {w : World} {B c R C : Nat} {A : Option Addr} {bss : List (List Bool)} (h : RdB w B A c bss) (hM : Grid R C bss) (hC : 0 < C) :
    R ≤ c ∧ c ≤ 9223372036854775807 ∧ ∀ i, i < R → ∃ b o bi oi ci, A = some ⟨b, o, none⟩ ∧ b < B ∧ bi < B ∧ C ≤ ci ∧ ci ≤ 9223372036854775807 ∧ w.cell? ⟨b, o + i, none⟩ = some (.slice (some ⟨bi, oi, none⟩) C ci) ∧ ∀ k, k < C → w.cell? ⟨bi, oi + k, none⟩ = some (.bool (getM bss i k)) := by
  obtain ⟨l1, l2⟩ := h.len
  rw [hM.1] at l1
  refine ⟨l1, l2, fun i hi => ?_⟩
  obtain ⟨b, o, hA, hb, hc⟩ := h.at (j := i) (by rw [hM.1]; exact hi)
  obtain ⟨Ai, ci, k1, k2⟩ := hc i (by rw [hM.1]; exact hi)
  have hl : (gb bss i).length = C := hM.2 i hi
  have h3 := k2.len
  have h4 := k2.max
  obtain ⟨bi, oi, rfl, hbi, hci⟩ := k2.at (j := 0) (by rw [bools_len, hl]; exact hC)
  rw [bools_len, hl] at h3
  rw [hl] at k1
  exact ⟨b, o, bi, oi, ci, hA, hb, hbi, h3, h4, k1, fun k hk => hci k _ (bools_at (gb bss i) k (by rw [hl]; exact hk))⟩

set_option maxHeartbeats 1600000 in
theorem isS_any (A : Option Addr) (c R C : Nat) (bss : List (List Bool)) (i k : Int) (w : World) (B : Nat) (h : RdB w B A c bss) (hM : Grid R C bss) (hR : 1 ≤ R ∧ R ≤ 8) (hC : 1 ≤ C ∧ C ≤ 8) :
    Calls Tryd.prog 193 #[.slice A R c, .int .i64 i, .int .i64 k] w fun e w' => e = .returned (.bool (frG bss i k)) ∧ w = w' := by
  obtain ⟨l1, l2, hg⟩ := h.get hM hC.1
  obtain ⟨b, o, b0, o0, c0, rfl, -, -, m1, m2, g0, -⟩ := hg 0 hR.1
  rw [Nat.add_zero] at g0
  have hfr : frG bss i k = (decide (0 ≤ i ∧ i < R ∧ 0 ≤ k ∧ k < C) && getM bss i.toNat k.toNat) := by
    unfold frG
    rw [hM.1, show (gb bss 0).length = C from hM.2 0 hR.1]
  by_cases hi : 0 ≤ i ∧ i < R
  · have hin1 : inB i 0 ((R : Int) - 1) = true := by simp [inB]; omega
    by_cases hk : 0 ≤ k ∧ k < C
    · have hin2 : inB k 0 ((C : Int) - 1) = true := by simp [inB]; omega
      obtain ⟨i0, i1⟩ := hi
      obtain ⟨k0, k1⟩ := hk
      obtain ⟨i, rfl⟩ := Int.eq_ofNat_of_zero_le i0
      obtain ⟨k, rfl⟩ := Int.eq_ofNat_of_zero_le k0
      obtain ⟨b', o', bi, oi, ci, hA, -, -, n1, n2, g1, g2⟩ := hg i (by omega)
      injection hA with hA
      injection hA with hA1 hA2
      subst hA1 hA2
      have g3 := g2 k (by omega)
      have HF : Hid (frG bss i k = getM bss i k) := by
        show _ = _
        rw [hfr, decide_eq_true ⟨by omega, by omega, by omega, by omega⟩, Bool.true_and]
        rfl
      clear hfr g2 hg h
      go_enter Tryd.func193, Tryd.ntmps193
      go_wp2_with (go_at_call 107; (with_reducible refine (l1In_any _ _ _ _).mono ?_); rintro e w1 ⟨rfl, rfl⟩)
      go_ret
      exact ⟨ret_bool HF.out.symm, rfl⟩
    · have hin2 : inB k 0 ((C : Int) - 1) = false := by simp [inB]; omega
      have HF : Hid (frG bss i k = false) := by
        show _ = _
        rw [hfr, decide_eq_false (fun h => hk ⟨h.2.2.1, h.2.2.2⟩), Bool.false_and]
      clear hfr hg h hk
      go_enter Tryd.func193, Tryd.ntmps193
      go_wp2_with (go_at_call 107; (with_reducible refine (l1In_any _ _ _ _).mono ?_); rintro e w1 ⟨rfl, rfl⟩)
      go_ret
      exact ⟨ret_bool HF.out.symm, rfl⟩
  · have hin1 : inB i 0 ((R : Int) - 1) = false := by simp [inB]; omega
    have HF : Hid (frG bss i k = false) := by
      show _ = _
      rw [hfr, decide_eq_false (fun h => hi ⟨h.1, h.2.1⟩), Bool.false_and]
    clear hfr hg h hi
    go_enter Tryd.func193, Tryd.ntmps193
    go_wp2_with (go_at_call 107; (with_reducible refine (l1In_any _ _ _ _).mono ?_); rintro e w1 ⟨rfl, rfl⟩)
    go_ret
    exact ⟨ret_bool HF.out.symm, rfl⟩

set_option maxRecDepth 100000 in
set_option maxHeartbeats 3200000 in
theorem growS_any (A : Option Addr) (c R C : Nat) (bss : List (List Bool)) (hb : Grid R C bss) (hn : 1 ≤ R ∧ R ≤ 8) (hw : 1 ≤ C ∧ C ≤ 8) (B lo : Nat) (hBlo : B ≤ lo) : ∀ (m : Nat) (M : List (List Bool)) (i k : Int) (w : World) (v : Value) (cs : List Value),
    cntM M < m → Grid R C M → GrC w lo v cs M → lo ≤ w.heap.size → RdB w B A c bss → -1 ≤ i → i ≤ 8 → -1 ≤ k → k ≤ 8 →
    Calls Tryd.prog 146 #[.slice A R c, v, .int .i64 i, .int .i64 k] w fun e w' => e = .returned (.tuple #[]) ∧ GrC w' lo v cs (flood (frG bss) M i k) ∧ Rows w w' cs := by
  intro m
  induction m with
  | zero => intro M i k w v cs h; omega
  | succ m ih =>
    intro M i k w v cs hcnt hM hG hlo hr hi1 hi2 hk1 hk2
    have HI := Lib.hid ih; clear ih
    have HFREE : Hid (∀ W, Below w.heap.size w W → Calls Tryd.prog 193 #[.slice A R c, .int .i64 i, .int .i64 k] W fun e w' => e = .returned (.bool (frG bss i k)) ∧ W = w') := fun W hh => isS_any A c R C bss i k W B (hr.below hh (by omega)) hb hn hw
    have HM := Lib.hid hM; have HGG := Lib.hid hG; have HR := Lib.hid hr
    have HB := Lib.hid hb
    obtain ⟨Av, cv, hv⟩ := hG.1.form
    rw [hG.len, hM.1] at hv
    subst hv
    clear hM hG hr hb
    cases hf : frG bss i k
    · have HFL : Hid (flood (frG bss) M i k = M) := flood_no fun h => by rw [hf] at h; exact absurd h.1 (by simp)
      have HF : Hid (∀ W, Below w.heap.size w W → Calls Tryd.prog 193 #[.slice A R c, .int .i64 i, .int .i64 k] W fun e w' => e = .returned (.bool false) ∧ W = w') := fun W hh => by have := HFREE.out W hh; rwa [hf] at this
      clear HFREE hf
      go_enter Tryd.func146, Tryd.ntmps146
      go_wp2_with fail
      ((with_reducible refine (HF.out _ (Below.refl _ _)).mono ?_); rintro e w1 ⟨rfl, rfl⟩)
      have hbA := Below.refl w.heap.size w
      go_wp2
      refine bodyPost_ret (results_none rfl _ _ _) rfl ?_
      exact ⟨rfl, by rw [HFL.out]; exact HGG.out.below hbA, Rows.of_below hbA⟩
    · obtain ⟨q1, q2, q3, q4⟩ := inR_frG HB.out (by omega) i k hf
      obtain ⟨i, rfl⟩ := Int.eq_ofNat_of_zero_le q1
      obtain ⟨k, rfl⟩ := Int.eq_ofNat_of_zero_le q3
      have hiR : i < R := by omega
      have hkC : k < C := by omega
      have HF : Hid (∀ W, Below w.heap.size w W → Calls Tryd.prog 193 #[.slice A R c, .int .i64 i, .int .i64 k] W fun e w' => e = .returned (.bool true) ∧ W = w') := fun W hh => by have := HFREE.out W hh; rwa [hf] at this
      clear HFREE
      obtain ⟨gv, cv', g, c', hv, hv1, hv2, hc1, hc2, p1, p2, p3, p4⟩ := HGG.out.at HM.out hiR hkC
      injection hv with hA hn' hcv
      subst hA
      subst hcv
      clear hn'
      have hgv : gv < w.heap.size := (HGG.out.1.lt gv rfl).2
      have hgl := HGG.out.row p4 rfl
      have HP1 : Hid (∀ W, Below w.heap.size w W → W.cell? ⟨gv, i, none⟩ = some (.slice (some ⟨g, 0, none⟩) C c')) := fun W hh => (hh.cell (p := ⟨gv, i, none⟩) hgv).trans p1
      have HP2 : Hid (∀ W, Below w.heap.size w W → W.cell? ⟨g, k, none⟩ = some (.bool (getM M i k))) := fun W hh => (hh.cell (p := ⟨g, k, none⟩) hgl.2).trans p2
      have HP4 := Lib.hid p4
      have HF1 := Lib.hid hf
      clear p1 p2 p3 p4 hf q1 q2 q3 q4
      cases hm : getM M i k
      · skip
        obtain ⟨gr0, cn0⟩ : Grid R C (setM M i k) ∧ cntM (setM M i k) + 1 = cntM M := ⟨grid_set HM.out i k hiR, cntM_set i k (by rw [HM.out.1]; exact hiR) (by rw [HM.out.2 i hiR]; exact hkC) hm⟩
        have HFL : Hid (flood (frG bss) M i k = flood (frG bss) (flood (frG bss) (flood (frG bss) (flood (frG bss) (setM M i k) ((i : Int) - 1) k) ((i : Int) + 1) k) i ((k : Int) - 1)) i ((k : Int) + 1)) := by
          have := flood_yes (inR_frG HB.out (by omega)) HM.out (i := (i : Int)) (k := (k : Int)) ⟨HF1.out, by rw [Int.toNat_natCast, Int.toNat_natCast]; exact hm⟩
          rw [Int.toNat_natCast, Int.toNat_natCast] at this
          exact this
        obtain ⟨gr1, cn1⟩ := flood_grid (inR_frG HB.out (by omega)) ((i : Int) - 1) (k : Int) gr0
        obtain ⟨gr2, cn2⟩ := flood_grid (inR_frG HB.out (by omega)) ((i : Int) + 1) (k : Int) gr1
        obtain ⟨gr3, cn3⟩ := flood_grid (inR_frG HB.out (by omega)) (i : Int) ((k : Int) - 1) gr2
        obtain ⟨gr4, cn4⟩ := flood_grid (inR_frG HB.out (by omega)) (i : Int) ((k : Int) + 1) gr3
        have HP3 : Hid (∀ W, Below w.heap.size w W → W.cell? ⟨g, k, none⟩ = some (.bool false)) := fun W hh => by have := HP2.out W hh; rwa [hm] at this
        clear HP2
        go_enter Tryd.func146, Tryd.ntmps146
        go_wp2_with fail
        ((with_reducible refine (HF.out _ (Below.refl _ _)).mono ?_); rintro e w1 ⟨rfl, rfl⟩)
        have hbA := Below.refl w.heap.size w
        have r1 := HP1.out w hbA
        have r2 := HP3.out w hbA
        have g1 := HGG.out.below hbA
        have z2 : w.frozen? ⟨g, k, none⟩ = false := by
          obtain ⟨_, _, g2, _, _, _, _, _, _, _, _, u3, u4⟩ := g1.at HM.out hiR hkC
          rw [HP4.out] at u4
          injection u4 with u4
          injection u4 with u4
          injection u4 with u4
          injection u4 with u4
          rw [u4]; exact u3
        obtain ⟨s1, s2⟩ := g1.set HM.out hiR hkC HP4.out
        have hzA := hbA.size
        have hW : Rows w (w.setCell ⟨g, k, none⟩ (.bool true)) cs := (Rows.of_below hbA).trans s2
        have HG0 := Lib.hid s1; have HW0 := Lib.hid hW
        clear s1 s2 hW g1
        go_wp2_with fail
        generalize hV : w.setCell ⟨g, k, none⟩ (.bool true) = V at *
        clear hV
        ((with_reducible refine (HI.out _ ((i : Int) - 1) (k : Int) V _ cs (by omega) gr0 HG0.out (by have := HW0.out.size; omega) (HR.out.rows HGG.out HW0.out hBlo hlo) (by omega) (by omega) (by omega) (by omega)).mono ?_); rintro e w3 ⟨rfl, t1, u1⟩)
        have HG1 := Lib.hid t1; have HW1 := Lib.hid (HW0.out.trans u1)
        clear t1 u1
        go_wp2_with fail
        ((with_reducible refine (HI.out _ ((i : Int) + 1) (k : Int) w3 _ cs (by omega) gr1 HG1.out (by have := HW1.out.size; omega) (HR.out.rows HGG.out HW1.out hBlo hlo) (by omega) (by omega) (by omega) (by omega)).mono ?_); rintro e w4 ⟨rfl, t2, u2⟩)
        have HG2 := Lib.hid t2; have HW2 := Lib.hid (HW1.out.trans u2)
        clear t2 u2
        go_wp2_with fail
        ((with_reducible refine (HI.out _ (i : Int) ((k : Int) - 1) w4 _ cs (by omega) gr2 HG2.out (by have := HW2.out.size; omega) (HR.out.rows HGG.out HW2.out hBlo hlo) (by omega) (by omega) (by omega) (by omega)).mono ?_); rintro e w5 ⟨rfl, t3, u3⟩)
        have HG3 := Lib.hid t3; have HW3 := Lib.hid (HW2.out.trans u3)
        clear t3 u3
        go_wp2_with fail
        ((with_reducible refine (HI.out _ (i : Int) ((k : Int) + 1) w5 _ cs (by omega) gr3 HG3.out (by have := HW3.out.size; omega) (HR.out.rows HGG.out HW3.out hBlo hlo) (by omega) (by omega) (by omega) (by omega)).mono ?_); rintro e w6 ⟨rfl, t4, u4⟩)
        have HG4 := Lib.hid t4; have HW4 := Lib.hid (HW3.out.trans u4)
        clear t4 u4
        go_wp2
        go_end0
        exact ⟨rfl, by rw [HFL.out]; exact HG4.out, HW4.out⟩
      · have HFL : Hid (flood (frG bss) M i k = M) := flood_no fun h => by
          have h2 := h.2
          rw [Int.toNat_natCast, Int.toNat_natCast, hm] at h2
          cases h2
        have HP3 : Hid (∀ W, Below w.heap.size w W → W.cell? ⟨g, k, none⟩ = some (.bool true)) := fun W hh => by have := HP2.out W hh; rwa [hm] at this
        clear hm HP2
        go_enter Tryd.func146, Tryd.ntmps146
        go_wp2_with fail
        ((with_reducible refine (HF.out _ (Below.refl _ _)).mono ?_); rintro e w1 ⟨rfl, rfl⟩)
        have hbA := Below.refl w.heap.size w
        have r1 := HP1.out w hbA
        have r2 := HP3.out w hbA
        go_wp2
        refine bodyPost_ret (results_none rfl _ _ _) rfl ?_
        exact ⟨rfl, by rw [HFL.out]; exact HGG.out.below hbA, Rows.of_below hbA⟩
end Go.Proofs.YtadljglcbieifaaDoor
