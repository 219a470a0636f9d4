/- Flooding a grid of marks: the program's walk. Conditions: none. -/
import Derived.Test.YtadljglcbieifaaDoorFl0
import Derived.Test.YtadljglcbieifaaDoorTrim
import Derived.Test.YtadljglcbieifaaDoorFresh
import Derived.Test.YtadljglcbieifaaDoorCells2
namespace Go.Proofs.YtadljglcbieifaaDoor
open Go.RowKit
set_option linter.unusedVariables false

theorem gc_bools (M : List (List Bool)) (i : Nat) : gc (M.map bools) i = bools (gb M i) := by
  unfold gc gb
  by_cases h : i < M.length <;> simp [h, List.getD, bools]
/-- v is a new grid of marks M, its rows the slices cs, all apart. -/
def GrC (w : World) (lo : Nat) (v : Value) (cs : List Value) (M : List (List Bool)) : Prop :=
  Own w lo 156 v cs ∧ FrC w lo 4 cs (M.map bools) ∧ ∀ (i : Nat) (u : Value) (g : Nat), cs[i]? = some u → u.ownBlock = some g → v.ownBlock ≠ some g
/-- Nothing has turned but rows of the grid. -/
def Rows (w w' : World) (cs : List Value) : Prop := w'.os = w.os ∧ w'.tape = w.tape ∧ w'.output = w.output ∧ w.heap.size ≤ w'.heap.size ∧ ∀ k, k < w.heap.size → (∀ (i : Nat) (u : Value), cs[i]? = some u → u.ownBlock ≠ some k) → w'.heap[k]? = w.heap[k]?
theorem Rows.refl (w : World) (cs : List Value) : Rows w w cs := ⟨rfl, rfl, rfl, Nat.le_refl _, fun _ _ _ => rfl⟩
theorem Rows.trans {a b c : World} {cs : List Value} (h : Rows a b cs) (k : Rows b c cs) : Rows a c cs :=
  ⟨k.1.trans h.1, k.2.1.trans h.2.1, k.2.2.1.trans h.2.2.1, Nat.le_trans h.2.2.2.1 k.2.2.2.1, fun j hj hn => (k.2.2.2.2 j (Nat.lt_of_lt_of_le hj h.2.2.2.1) hn).trans (h.2.2.2.2 j hj hn)⟩
theorem Rows.of_below {a b : World} {cs : List Value} (h : Below a.heap.size a b) : Rows a b cs := ⟨h.os, h.tape, h.output, h.size, fun k hk _ => h.block k hk⟩
theorem Rows.size {a b : World} {cs : List Value} (h : Rows a b cs) : a.heap.size ≤ b.heap.size := h.2.2.2.1
theorem GrC.below {w w' : World} {lo : Nat} {v : Value} {cs : List Value} {M : List (List Bool)} (h : GrC w lo v cs M) (hb : Below w.heap.size w w') : GrC w' lo v cs M :=
  ⟨h.1.below hb, h.2.1.keep fun _ _ _ _ k => k.below hb, h.2.2⟩
theorem GrC.row {w : World} {lo : Nat} {v : Value} {cs : List Value} {M : List (List Bool)} (h : GrC w lo v cs M) {i : Nat} {u : Value} {k : Nat} (hi : cs[i]? = some u) (hu : u.ownBlock = some k) : lo ≤ k ∧ k < w.heap.size := by
  have hil : i < (M.map bools).length := by
    rw [← h.2.1.1]
    rcases Nat.lt_or_ge i cs.length with h' | h'
    · exact h'
    · rw [List.getElem?_eq_none h'] at hi; cases hi
  obtain ⟨Ai, ci, k1, k2⟩ := h.2.1.2.1 i hil
  rw [hi] at k1
  injection k1 with k1
  subst k1
  exact k2.lt k hu
theorem Rd.rows {w w' : World} {B c lo : Nat} {A : Option Addr} {xs cs : List Value} {v : Value} {M : List (List Bool)} (h : Rd w B A c xs) (hg : GrC w lo v cs M) (hr : Rows w w' cs) (hB : B ≤ lo) (hlo : lo ≤ w.heap.size) : Rd w' B A c xs :=
  ⟨h.1, h.2.1, h.2.2.1, fun j hj => by
    obtain ⟨b, o, hA, hb, hc⟩ := h.2.2.2 j hj
    refine ⟨b, o, hA, hb, fun i u hi => ?_⟩
    refine (World.cell?_of_block (w := w) (a := ⟨b, o + i, none⟩) (hr.2.2.2.2 b (by omega) fun i u hi hu => ?_)).trans (hc i u hi)
    have := (hg.row hi hu).1
    omega⟩
theorem Blk.rows {w w' : World} {g : Nat} {t : TypeId} {xs : Array Value} {cs : List Value} (h : Blk w g t xs) (hr : Rows w w' cs) (hn : ∀ (i : Nat) (u : Value), cs[i]? = some u → u.ownBlock ≠ some g) : Blk w' g t xs := (hr.2.2.2.2 g h.lt hn).trans h
theorem GrC.len {w : World} {lo : Nat} {v : Value} {cs : List Value} {M : List (List Bool)} (h : GrC w lo v cs M) : cs.length = M.length := by rw [h.2.1.1, List.length_map]
/-- A cell of the grid. -/
theorem GrC.at {w : World} {lo R C : Nat} {v : Value} {cs : List Value} {M : List (List Bool)} (h : GrC w lo v cs M) (hM : Grid R C M) {i k : Nat} (hi : i < R) (hk : k < C) :
    ∃ gv cv g c, v = .slice (some ⟨gv, 0, none⟩) R cv ∧ R ≤ cv ∧ cv ≤ 9223372036854775807 ∧ C ≤ c ∧ c ≤ 9223372036854775807 ∧ w.cell? ⟨gv, i, none⟩ = some (.slice (some ⟨g, 0, none⟩) C c) ∧ w.cell? ⟨g, k, none⟩ = some (.bool (getM M i k)) ∧ w.frozen? ⟨g, k, none⟩ = false ∧ cs[i]? = some (.slice (some ⟨g, 0, none⟩) C c) := by
  have hcl := h.len
  obtain ⟨h1, h2, h3⟩ := h
  rw [hM.1] at hcl
  obtain ⟨Av, cv, rfl⟩ := h1.form
  obtain ⟨gv, rfl, -, hg1, hg2, hgc, hgf⟩ := h1.at (by omega)
  have hv1 := h1.rd.len
  have hv2 := h1.rd.max
  rw [hcl] at hv1
  obtain ⟨Ai, ci, k1, k2⟩ := h2.2.1 i (by rw [List.length_map, hM.1]; exact hi)
  have hrl : (gb M i).length = C := hM.2 i hi
  rw [gc_bools, bools_len, hrl] at k1
  rw [gc_bools] at k2
  have hr1 := k2.rd.len
  have hr2 := k2.rd.max
  rw [bools_len, hrl] at hr1
  obtain ⟨g, hA, -, hb1, hb2, hbc, hbf⟩ := k2.at (by rw [bools_len, hrl]; omega)
  subst hA
  refine ⟨gv, cv, g, ci, by rw [hcl], hv1, hv2, hr1, hr2, hgc i _ k1, ?_, hbf k, k1⟩
  rw [hbc k _ (bools_at (gb M i) k (by rw [hrl]; exact hk))]
  rfl
theorem bools_set (l : List Bool) (k : Nat) : (bools l).set k (.bool true) = bools (l.set k true) := by
  unfold bools
  rw [List.map_set]
/-- A mark is set. -/
theorem GrC.set {w : World} {lo R C : Nat} {v : Value} {cs : List Value} {M : List (List Bool)} (h : GrC w lo v cs M) (hM : Grid R C M) {i k g c : Nat} (hi : i < R) (hk : k < C) (hc : cs[i]? = some (.slice (some ⟨g, 0, none⟩) C c)) :
    GrC (w.setCell ⟨g, k, none⟩ (.bool true)) lo v cs (setM M i k) ∧ Rows w (w.setCell ⟨g, k, none⟩ (.bool true)) cs := by
  have hcl := h.len
  obtain ⟨h1, h2, h3⟩ := h
  have hrl : (gb M i).length = C := hM.2 i hi
  refine ⟨⟨h1.far _ _ (h3 i _ g hc rfl), ⟨?_, fun j hj => ?_, h2.2.2⟩, h3⟩, rfl, rfl, rfl, by simp, fun b hb hn => Below.heap_setCell _ _ _ _ fun e => hn i _ hc (by rw [e]; rfl)⟩
  · rw [h2.1, List.length_map, List.length_map, setM, List.length_set]
  · rw [List.length_map, setM, List.length_set] at hj
    obtain ⟨Aj, cj, k1, k2⟩ := h2.2.1 j (by rw [List.length_map]; exact hj)
    by_cases e : i = j
    · subst e
      rw [hc] at k1
      injection k1 with k1
      rw [gc_bools] at k2 k1
      have eg : gb (setM M i k) i = (gb M i).set k true := by
        unfold setM
        exact getD_set_same _ _ hj _ _
      rw [gc_bools, eg, bools_len, List.length_set, hrl]
      rw [bools_len, hrl] at k1
      have k3 : w.ownsRow lo 4 1 (.slice (some ⟨g, 0, none⟩) C c) C (bools (gb M i)) := by
        unfold Own at k2
        rw [bools_len, hrl] at k2
        rw [k1]; exact k2
      have k4 := (World.ownsRow.stored k3 k (.bool true)).1
      refine ⟨some ⟨g, 0, none⟩, c, hc, ?_⟩
      rw [bools_set] at k4
      unfold Own
      rw [bools_len, List.length_set, hrl]
      exact k4
    · have eg : gc ((setM M i k).map bools) j = gc (M.map bools) j := by
        rw [gc_bools, gc_bools]
        unfold setM
        exact congrArg bools (getD_set_ne M i j e _ [])
      rw [eg]
      exact ⟨Aj, cj, k1, k2.far _ _ fun he => e (h2.2.2 i j _ _ g hc k1 rfl he)⟩
theorem inR_frI {ss : List ByteArray} : InR ss.length (gs ss 0).size (frI ss) := by
  intro i k h
  unfold frI at h
  simp at h
  omega

set_option maxRecDepth 100000 in
set_option maxHeartbeats 3200000 in
theorem compI_any (A : Option Addr) (c : Nat) (ss : List ByteArray) (hb : boardP ss) (B lo : Nat) (hBlo : B ≤ lo) : ∀ (m : Nat) (M : List (List Bool)) (i k : Int) (w : World) (v : Value) (cs : List Value),
    cntM M < m → Grid ss.length (gs ss 0).size M → GrC w lo v cs M → lo ≤ w.heap.size → Rd w B A c (scells ss) → -1 ≤ i → i ≤ 8 → -1 ≤ k → k ≤ 8 →
    Calls Tryd.prog 151 #[.agg #[.slice A ss.length c], .int .i64 i, .int .i64 k, v] w fun e w' => e = .returned (.tuple #[]) ∧ GrC w' lo v cs (flood (frI ss) M i k) ∧ Rows w w' cs := by
  have hn := hb.1
  have hw := hb.2.1
  intro m
  induction m with
  | zero => intro M i k w v cs h; omega
  | succ m ih =>
    intro M i k w v cs hcnt hM hG hlo hr hi1 hi2 hk1 hk2
    have HI := Lib.hid ih; clear ih
    have HFREE : Hid (∀ W, Below w.heap.size w W → Calls Tryd.prog 150 #[.agg #[.slice A ss.length c], .int .i64 i, .int .i64 k] W fun e w' => e = .returned (.bool (frI ss i k)) ∧ Below W.heap.size W w') := fun W hh => free_any A c ss i k W B (by have := hh.size; omega) (hr.below hh (by omega)) hb
    have HM := Lib.hid hM; have HGG := Lib.hid hG; have HR := Lib.hid hr
    have HB := Lib.hid hb
    obtain ⟨Av, cv, hv⟩ := hG.1.form
    rw [hG.len, hM.1] at hv
    subst hv
    clear hM hG hr hb
    cases hf : frI ss i k
    · have HFL : Hid (flood (frI ss) M i k = M) := flood_no fun h => by rw [hf] at h; exact absurd h.1 (by simp)
      have HF : Hid (∀ W, Below w.heap.size w W → Calls Tryd.prog 150 #[.agg #[.slice A ss.length c], .int .i64 i, .int .i64 k] W fun e w' => e = .returned (.bool false) ∧ Below W.heap.size W w') := fun W hh => by have := HFREE.out W hh; rwa [hf] at this
      clear HFREE hf
      go_enter Tryd.func151, Tryd.ntmps151
      go_wp2_with fail
      ((with_reducible refine (HF.out _ (bel1 _ _)).mono ?_); rintro e w1 ⟨rfl, hb1⟩)
      have hbA := gtr (bel1 w _) hb1
      go_wp2
      refine bodyPost_ret (results_none rfl _ _ _) rfl ?_
      exact ⟨rfl, by rw [HFL.out]; exact HGG.out.below hbA, Rows.of_below hbA⟩
    · obtain ⟨q1, q2, q3, q4⟩ := inR_frI i k hf
      obtain ⟨i, rfl⟩ := Int.eq_ofNat_of_zero_le q1
      obtain ⟨k, rfl⟩ := Int.eq_ofNat_of_zero_le q3
      have hiR : i < ss.length := by omega
      have hkC : k < (gs ss 0).size := by omega
      have HF : Hid (∀ W, Below w.heap.size w W → Calls Tryd.prog 150 #[.agg #[.slice A ss.length c], .int .i64 i, .int .i64 k] W fun e w' => e = .returned (.bool true) ∧ Below W.heap.size W w') := fun W hh => by have := HFREE.out W hh; rwa [hf] at this
      clear HFREE
      obtain ⟨gv, cv', g, c', hv, hv1, hv2, hc1, hc2, p1, p2, p3, p4⟩ := HGG.out.at HM.out hiR hkC
      injection hv with hA hn' hcv
      subst hA
      subst hcv
      clear hn'
      have hgv : gv < w.heap.size := (HGG.out.1.lt gv rfl).2
      have hgl := HGG.out.row p4 rfl
      have HP1 : Hid (∀ W, Below w.heap.size w W → W.cell? ⟨gv, i, none⟩ = some (.slice (some ⟨g, 0, none⟩) (gs ss 0).size c')) := fun W hh => (hh.cell (p := ⟨gv, i, none⟩) hgv).trans p1
      have HP2 : Hid (∀ W, Below w.heap.size w W → W.cell? ⟨g, k, none⟩ = some (.bool (getM M i k))) := fun W hh => (hh.cell (p := ⟨g, k, none⟩) hgl.2).trans p2
      have HP4 := Lib.hid p4
      have HF1 := Lib.hid hf
      clear p1 p2 p3 p4 hf q1 q2 q3 q4
      cases hm : getM M i k
      · skip
        obtain ⟨gr0, cn0⟩ : Grid ss.length (gs ss 0).size (setM M i k) ∧ cntM (setM M i k) + 1 = cntM M := ⟨grid_set HM.out i k hiR, cntM_set i k (by rw [HM.out.1]; exact hiR) (by rw [HM.out.2 i hiR]; exact hkC) hm⟩
        have HFL : Hid (flood (frI ss) M i k = flood (frI ss) (flood (frI ss) (flood (frI ss) (flood (frI ss) (setM M i k) ((i : Int) - 1) k) ((i : Int) + 1) k) i ((k : Int) - 1)) i ((k : Int) + 1)) := by
          have := flood_yes (inR_frI (ss := ss)) HM.out (i := (i : Int)) (k := (k : Int)) ⟨HF1.out, by rw [Int.toNat_natCast, Int.toNat_natCast]; exact hm⟩
          rw [Int.toNat_natCast, Int.toNat_natCast] at this
          exact this
        obtain ⟨gr1, cn1⟩ := flood_grid (inR_frI (ss := ss)) ((i : Int) - 1) (k : Int) gr0
        obtain ⟨gr2, cn2⟩ := flood_grid (inR_frI (ss := ss)) ((i : Int) + 1) (k : Int) gr1
        obtain ⟨gr3, cn3⟩ := flood_grid (inR_frI (ss := ss)) (i : Int) ((k : Int) - 1) gr2
        obtain ⟨gr4, cn4⟩ := flood_grid (inR_frI (ss := ss)) (i : Int) ((k : Int) + 1) gr3
        have HP3 : Hid (∀ W, Below w.heap.size w W → W.cell? ⟨g, k, none⟩ = some (.bool false)) := fun W hh => by have := HP2.out W hh; rwa [hm] at this
        clear HP2
        go_enter Tryd.func151, Tryd.ntmps151
        go_wp2_with fail
        have hbx := Blk.new w 60 #[.slice A ss.length c]
        ((with_reducible refine (HF.out _ (bel1 _ _)).mono ?_); rintro e w1 ⟨rfl, hb1⟩)
        have hbx1 := hbx.below hb1 hbx.lt
        have hbA := gtr (bel1 w _) hb1
        have r1 := HP1.out w1 hbA
        have r2 := HP3.out w1 hbA
        have g1 := HGG.out.below hbA
        have z2 : w1.frozen? ⟨g, k, none⟩ = false := by
          obtain ⟨_, _, g2, _, _, _, _, _, _, _, _, u3, u4⟩ := g1.at HM.out hiR hkC
          rw [HP4.out] at u4
          injection u4 with u4
          injection u4 with u4
          injection u4 with u4
          injection u4 with u4
          rw [u4]; exact u3
        obtain ⟨s1, s2⟩ := g1.set HM.out hiR hkC HP4.out
        have hzA := hbA.size
        have hW : Rows w (w1.setCell ⟨g, k, none⟩ (.bool true)) cs := (Rows.of_below hbA).trans s2
        have HG0 := Lib.hid s1; have HW0 := Lib.hid hW
        have hbn : ∀ (j : Nat) (u : Value), cs[j]? = some u → u.ownBlock ≠ some w.heap.size := fun j u hj hu => by have := (HGG.out.row hj hu).2; omega
        have hbx2 := hbx1.rows s2 hbn
        have c2 : (w1.setCell ⟨g, k, none⟩ (.bool true)).cell? ⟨w.heap.size, 0, none⟩ = some (.slice A ss.length c) := hbx2.cell 0
        have HBN := Lib.hid hbn; have HBX0 := Lib.hid hbx2
        clear hbn hbx hbx1 hbx2
        clear s1 s2 hW g1
        go_wp2_with fail
        generalize hV : w1.setCell ⟨g, k, none⟩ (.bool true) = V at *
        clear hV
        ((with_reducible refine (HI.out _ ((i : Int) - 1) (k : Int) V _ cs (by omega) gr0 HG0.out (by have := HW0.out.size; omega) (HR.out.rows HGG.out HW0.out hBlo hlo) (by omega) (by omega) (by omega) (by omega)).mono ?_); rintro e w3 ⟨rfl, t1, u1⟩)
        have HG1 := Lib.hid t1; have HW1 := Lib.hid (HW0.out.trans u1)
        have hbx1 := HBX0.out.rows u1 HBN.out
        have c3 : w3.cell? ⟨w.heap.size, 0, none⟩ = some (.slice A ss.length c) := hbx1.cell 0
        have HBX1 := Lib.hid hbx1; clear hbx1
        clear t1 u1
        go_wp2_with fail
        ((with_reducible refine (HI.out _ ((i : Int) + 1) (k : Int) w3 _ cs (by omega) gr1 HG1.out (by have := HW1.out.size; omega) (HR.out.rows HGG.out HW1.out hBlo hlo) (by omega) (by omega) (by omega) (by omega)).mono ?_); rintro e w4 ⟨rfl, t2, u2⟩)
        have HG2 := Lib.hid t2; have HW2 := Lib.hid (HW1.out.trans u2)
        have hbx2 := HBX1.out.rows u2 HBN.out
        have c4 : w4.cell? ⟨w.heap.size, 0, none⟩ = some (.slice A ss.length c) := hbx2.cell 0
        have HBX2 := Lib.hid hbx2; clear hbx2
        clear t2 u2
        go_wp2_with fail
        ((with_reducible refine (HI.out _ (i : Int) ((k : Int) - 1) w4 _ cs (by omega) gr2 HG2.out (by have := HW2.out.size; omega) (HR.out.rows HGG.out HW2.out hBlo hlo) (by omega) (by omega) (by omega) (by omega)).mono ?_); rintro e w5 ⟨rfl, t3, u3⟩)
        have HG3 := Lib.hid t3; have HW3 := Lib.hid (HW2.out.trans u3)
        have hbx3 := HBX2.out.rows u3 HBN.out
        have c5 : w5.cell? ⟨w.heap.size, 0, none⟩ = some (.slice A ss.length c) := hbx3.cell 0
        have HBX3 := Lib.hid hbx3; clear hbx3
        clear t3 u3
        go_wp2_with fail
        ((with_reducible refine (HI.out _ (i : Int) ((k : Int) + 1) w5 _ cs (by omega) gr3 HG3.out (by have := HW3.out.size; omega) (HR.out.rows HGG.out HW3.out hBlo hlo) (by omega) (by omega) (by omega) (by omega)).mono ?_); rintro e w6 ⟨rfl, t4, u4⟩)
        have HG4 := Lib.hid t4; have HW4 := Lib.hid (HW3.out.trans u4)
        have hbx4 := HBX3.out.rows u4 HBN.out
        have c6 : w6.cell? ⟨w.heap.size, 0, none⟩ = some (.slice A ss.length c) := hbx4.cell 0
        have HBX4 := Lib.hid hbx4; clear hbx4
        clear t4 u4
        go_wp2
        go_end0
        exact ⟨rfl, by rw [HFL.out]; exact HG4.out, HW4.out⟩
      · have HFL : Hid (flood (frI ss) M i k = M) := flood_no fun h => by
          have h2 := h.2
          rw [Int.toNat_natCast, Int.toNat_natCast, hm] at h2
          cases h2
        have HP3 : Hid (∀ W, Below w.heap.size w W → W.cell? ⟨g, k, none⟩ = some (.bool true)) := fun W hh => by have := HP2.out W hh; rwa [hm] at this
        clear hm HP2
        go_enter Tryd.func151, Tryd.ntmps151
        go_wp2_with fail
        ((with_reducible refine (HF.out _ (bel1 _ _)).mono ?_); rintro e w1 ⟨rfl, hb1⟩)
        have hbA := gtr (bel1 w _) hb1
        have r1 := HP1.out w1 hbA
        have r2 := HP3.out w1 hbA
        go_wp2
        refine bodyPost_ret (results_none rfl _ _ _) rfl ?_
        exact ⟨rfl, by rw [HFL.out]; exact HGG.out.below hbA, Rows.of_below hbA⟩
end Go.Proofs.YtadljglcbieifaaDoor
