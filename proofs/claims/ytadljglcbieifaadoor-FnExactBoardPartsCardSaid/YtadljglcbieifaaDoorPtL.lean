/- Lists of boards: equal, marked, held; BoardParts of both, by contracts. Conditions: none. -/
import Derived.Test.YtadljglcbieifaaDoorPtS
import Derived.Test.YtadljglcbieifaaDoorMarkB
namespace Go.Proofs.YtadljglcbieifaaDoor
open Go.RowKit
set_option linter.unusedVariables false

def gss (outs : List (List ByteArray)) (i : Nat) : List ByteArray := outs.getD i []
theorem gc_outs (outs : List (List ByteArray)) (i : Nat) : gc (outs.map scells) i = scells (gss outs i) := by
  unfold gc gss
  by_cases h : i < outs.length <;> simp [h, List.getD, scells]
/-- Slice A of capacity c reads as boards. -/
def RdBS (w : World) (B : Nat) (A : Option Addr) (c : Nat) (outs : List (List ByteArray)) : Prop :=
  ∃ os, Rd w B A c os ∧ os.length = outs.length ∧ ∀ i, i < outs.length → ∃ Ai ci, os[i]? = some (.slice Ai (gss outs i).length ci) ∧ Rd w B Ai ci (scells (gss outs i))
theorem RdBS.below {w w' : World} {B B' c : Nat} {A : Option Addr} {outs : List (List ByteArray)} (h : RdBS w B A c outs) (hb : Below B' w w') (hB : B ≤ B') : RdBS w' B A c outs := by
  obtain ⟨cs, h1, h2, h3⟩ := h
  exact ⟨cs, h1.below hb hB, h2, fun i hi => by obtain ⟨Ai, ci, k1, k2⟩ := h3 i hi; exact ⟨Ai, ci, k1, k2.below hb hB⟩⟩
theorem RdBS.more {w : World} {B B' c : Nat} {A : Option Addr} {outs : List (List ByteArray)} (h : RdBS w B A c outs) (hB : B ≤ B') : RdBS w B' A c outs := by
  obtain ⟨cs, h1, h2, h3⟩ := h
  exact ⟨cs, h1.more hB, h2, fun i hi => by obtain ⟨Ai, ci, k1, k2⟩ := h3 i hi; exact ⟨Ai, ci, k1, k2.more hB⟩⟩
theorem RdBS.len {w : World} {B c : Nat} {A : Option Addr} {outs : List (List ByteArray)} (h : RdBS w B A c outs) : outs.length ≤ c ∧ c ≤ 9223372036854775807 := by
  obtain ⟨cs, h1, h2, _⟩ := h
  have := h1.len
  exact ⟨by omega, h1.max⟩
theorem RdBS.at {w : World} {B c : Nat} {A : Option Addr} {outs : List (List ByteArray)} (h : RdBS w B A c outs) {j : Nat} (hj : j < outs.length) :
    ∃ b o Ai ci, A = some ⟨b, o, none⟩ ∧ b < B ∧ w.cell? ⟨b, o + j, none⟩ = some (.slice Ai (gss outs j).length ci) ∧ Rd w B Ai ci (scells (gss outs j)) := by
  obtain ⟨cs, h1, h2, h3⟩ := h
  obtain ⟨b, o, hA, hb, hc⟩ := h1.at (j := j) (by omega)
  obtain ⟨Ai, ci, k1, k2⟩ := h3 j hj
  exact ⟨b, o, Ai, ci, hA, hb, hc j _ k1, k2⟩
theorem FrR.rdBS {w : World} {lo n c : Nat} {A : Option Addr} {outs : List (List ByteArray)} (h : FrR w lo 60 9 (.slice A n c) (outs.map scells)) : RdBS w w.heap.size A c outs := by
  obtain ⟨cs, h1, h2, h3⟩ := h
  refine ⟨cs, h1.rd, by rw [h2.1, List.length_map], fun i hi => ?_⟩
  obtain ⟨Ai, ci, k1, k2⟩ := h2.2.1 i (by rw [List.length_map]; exact hi)
  rw [gc_outs, scells_len] at k1
  rw [gc_outs] at k2
  exact ⟨Ai, ci, k1, k2.rd⟩
theorem Rd.grownUp {w w' : World} {B c : Nat} {A : Option Addr} {xs : List Value} {row : Option Nat} (h : Rd w B A c xs) (hg : w.grownBy w' row) (hB : B ≤ w.heap.size) (hr : ∀ g, row = some g → B ≤ g) : Rd w' B A c xs :=
  ⟨h.1, h.2.1, h.2.2.1, fun j hj => by
    obtain ⟨b, o, hA, hb, hc⟩ := h.2.2.2 j hj
    refine ⟨b, o, hA, hb, fun i u hi => ?_⟩
    refine (World.cell?_of_block (w := w) (a := ⟨b, o + i, none⟩) (hg.block b (by omega) fun e => ?_)).trans (hc i u hi)
    have h2 := hr b e.symm
    omega⟩
theorem RdBS.grownUp {w w' : World} {B c : Nat} {A : Option Addr} {outs : List (List ByteArray)} {row : Option Nat} (h : RdBS w B A c outs) (hg : w.grownBy w' row) (hB : B ≤ w.heap.size) (hr : ∀ g, row = some g → B ≤ g) : RdBS w' B A c outs := by
  obtain ⟨cs, h1, h2, h3⟩ := h
  exact ⟨cs, h1.grownUp hg hB hr, h2, fun i hi => by obtain ⟨Ai, ci, k1, k2⟩ := h3 i hi; exact ⟨Ai, ci, k1, k2.grownUp hg hB hr⟩⟩
theorem FrR.grownLow {w w' : World} {lo : Nat} {E e : TypeId} {v : Value} {css : List (List Value)} {row : Option Nat} (h : FrR w lo E e v css) (hg : w.grownBy w' row) (hr : ∀ g, row = some g → g < lo) : FrR w' lo E e v css := by
  obtain ⟨us, h1, h2, h3⟩ := h
  refine ⟨us, h1.grown hg ?_, h2.keep fun _ x _ _ k => k.grown hg ?_, h3⟩
  · by_cases hv : v.ownBlock = none
    · exact .inl hv
    · obtain ⟨g, hgv⟩ := Option.ne_none_iff_exists'.1 hv
      exact .inr fun e => by have := hr g (by rw [← e]; exact hgv); have := (h1.lt g hgv).1; omega
  · by_cases hv : x.ownBlock = none
    · exact .inl hv
    · obtain ⟨g, hgv⟩ := Option.ne_none_iff_exists'.1 hv
      exact .inr fun e => by have := hr g (by rw [← e]; exact hgv); have := (k.lt g hgv).1; omega

/-- How many texts stand in the first boards. -/
def offB (outs : List (List ByteArray)) : Nat → Nat
  | 0 => 0
  | i + 1 => offB outs i + (gss outs i).length
theorem offB_le (outs : List (List ByteArray)) : ∀ {i j : Nat}, i ≤ j → offB outs i ≤ offB outs j := by
  intro i j h
  induction h with
  | refl => exact Nat.le_refl _
  | step _ ih => exact Nat.le_trans ih (Nat.le_add_right _ _)
/-- The first boards marked. -/
def mkBS (k : Nat) (outs : List (List ByteArray)) : Nat → List (List ByteArray)
  | 0 => outs
  | i + 1 => (mkBS k outs i).set i (marks (k + offB outs i) (gss outs i).length)
theorem mkBS_len (k : Nat) (outs : List (List ByteArray)) (j : Nat) : (mkBS k outs j).length = outs.length := by
  induction j with
  | zero => rfl
  | succ j ih => rw [mkBS, List.length_set, ih]
theorem gss_set (outs : List (List ByteArray)) (i j : Nat) (t : List ByteArray) (hj : j < outs.length) : gss (outs.set i t) j = if i = j then t else gss outs j := by
  unfold gss
  by_cases e : i = j
  · subst e; rw [if_pos rfl, getD_set_same _ _ hj]
  · rw [if_neg e, getD_set_ne _ _ _ e]
theorem gss_mk (k : Nat) (outs : List (List ByteArray)) (j i : Nat) (hi : i < outs.length) : gss (mkBS k outs j) i = if i < j then marks (k + offB outs i) (gss outs i).length else gss outs i := by
  induction j with
  | zero => rw [if_neg (by omega)]; rfl
  | succ j ih =>
    rw [mkBS, gss_set _ _ _ _ (by rw [mkBS_len]; exact hi), ih]
    by_cases e : j = i
    · subst e; rw [if_pos rfl, if_pos (by omega)]
    · rw [if_neg e]
      by_cases h : i < j
      · rw [if_pos h, if_pos (by omega)]
      · rw [if_neg h, if_neg (by omega)]

set_option maxHeartbeats 800000 in
theorem eqBS_same (A A' : Option Addr) (c c' : Nat) (outs : List (List ByteArray)) (w : World) (B : Nat) (hB : B ≤ w.heap.size) (h : RdBS w B A c outs) (h' : RdBS w B A' c' outs) :
    Calls Tryd.prog 40 #[.slice A outs.length c, .slice A' outs.length c'] w fun e w' => e = .returned (.bool true) ∧ Below w.heap.size w w' := by
  obtain ⟨h1, h2⟩ := h.len
  obtain ⟨h3, h4⟩ := h'.len
  have hne : ((outs.length : Int) != (outs.length : Int)) = false := by simp
  go_enter Tryd.func40, Tryd.ntmps40
  go_wp2
  go_loopw [5] (fun i wr => ∃ k : Nat, i = .int .i64 k ∧ k ≤ outs.length ∧ Below w.heap.size w wr) (fun i _ => outs.length - (intOf i).toNat)
  case atStart => exact ⟨0, rfl, by omega, Below.refl _ _⟩
  case round =>
    obtain ⟨k, rfl, hk, hb⟩ := hrel
    have hzr := hb.size
    by_cases hlt : k < outs.length
    · obtain ⟨b, o, A1, c1, rfl, hbB, k0, r1⟩ := (h.below hb hB).at hlt
      obtain ⟨b', o', A2, c2, rfl, hbB', l0, r2⟩ := (h'.below hb hB).at hlt
      generalize gss outs k = t at *
      have hbz : b < wr.heap.size := by omega
      have hbz' : b' < wr.heap.size := by omega
      have hx0 := fun x => (grow_cell (w := wr) b (o + k) hbz x).trans k0
      have hx2 := fun x => (grow_cell (w := wr) b' (o' + k) hbz' x).trans l0
      have HR1 : Hid (∀ x : Wd (Below wr.heap.size wr), Rd (inst _ x) B A1 c1 (scells t)) := fun x => r1.below (inst_inv x) (by omega)
      have HR2 : Hid (∀ x : Wd (Below wr.heap.size wr), Rd (inst _ x) B A2 c2 (scells t)) := fun x => r2.below (inst_inv x) (by omega)
      clear k0 l0 r1 r2
      go_wp2
      refine wp_region_inv (Below wr.heap.size wr) (grow0 _) (by kernel_rfl) (by kernel_rfl) ?_
      repeat (go_big_quiet_step (first | (go_at_call 41; with_reducible exact grow_step (eqBoard_same A1 A2 c1 c2 t _ B (by exact Nat.le_trans (by omega) (grow_size _)) (HR1.out _) (HR2.out _)))))
      refine wpQuiet_nil ?_
      intro w2 hw'
      have hb2 := grow_of hw'
      clear hw'
      go_wp2
      go_roundw
      case rel => exact ⟨k + 1, by go_num, by omega, hb.trans (hb2.mono hzr)⟩
      case measure => simp [intOf]; omega
    · obtain rfl : k = outs.length := by omega
      go_wp2
      go_ret
      exact ⟨rfl, hb⟩

set_option maxHeartbeats 800000 in
theorem heldBS_any (A : Option Addr) (c : Nat) (outs : List (List ByteArray)) (k : Nat) (w : World) (B : Nat) (hB : B ≤ w.heap.size) (h : RdBS w B A c (mkBS k outs outs.length)) (hk : 1 ≤ k) (hb : k + offB outs outs.length ≤ 10000000) :
    Calls Tryd.prog 44 #[.slice A outs.length c, .int .i64 k] w fun e w' => e = .returned (.int .i64 (k + offB outs outs.length : Nat)) ∧ Below w.heap.size w w' := by
  obtain ⟨h1, h2⟩ := h.len
  rw [mkBS_len] at h1
  have HOFF : Hid (∀ j, j < outs.length → offB outs (j + 1) = offB outs j + (gss outs j).length ∧ offB outs (j + 1) ≤ offB outs outs.length) := fun j hj => ⟨rfl, offB_le outs hj⟩
  have HG : Hid (∀ i, i < outs.length → gss (mkBS k outs outs.length) i = marks (k + offB outs i) (gss outs i).length) := fun i hi => by rw [gss_mk k outs outs.length i hi, if_pos hi]
  go_enter Tryd.func44, Tryd.ntmps44
  go_wp2
  go_loopw [1, 5] (fun k' i wr => ∃ j : Nat, i = .int .i64 j ∧ k' = .int .i64 (k + offB outs j : Nat) ∧ j ≤ outs.length ∧ Below w.heap.size w wr) (fun _ i _ => outs.length - (intOf i).toNat)
  case atStart => exact ⟨0, rfl, rfl, by omega, Below.refl _ _⟩
  case round =>
    obtain ⟨j, rfl, rfl, hj, hb1⟩ := hrel
    have hzr := hb1.size
    by_cases hlt : j < outs.length
    · obtain ⟨b, o, A1, c1, rfl, hbB, k0, r1⟩ := (h.below hb1 hB).at (j := j) (by rw [mkBS_len]; exact hlt)
      rw [HG.out j hlt] at k0 r1
      simp only [marks_len] at k0
      obtain ⟨hoj, hol⟩ := HOFF.out j hlt
      have HOJ := Lib.hid hoj
      generalize (gss outs j).length = m at *
      have HH : Hid (Calls Tryd.prog 102 #[.slice A1 m c1, .int .i64 (k + offB outs j : Nat)] wr fun e w' => e = .returned (.int .i64 (k + offB outs (j + 1) : Nat)) ∧ Below wr.heap.size wr w') := by
        have := heldStr_any A1 c1 m (k + offB outs j) wr B (by omega) r1 (by omega) (by omega)
        exact this.mono fun e w' ⟨h1, h2⟩ => ⟨by rw [h1, HOJ.out, Nat.add_assoc], h2⟩
      have hnn : ¬ ((k + offB outs (j + 1) : Nat) : Int) < 0 := by omega
      clear hoj r1
      obtain ⟨K1, hK1⟩ : ∃ K1, K1 = k + offB outs (j + 1) := ⟨_, rfl⟩
      rw [← hK1] at HH hnn
      have HK1 := Lib.hid hK1
      clear hK1
      obtain ⟨K0, hK0⟩ : ∃ K0, K0 = k + offB outs j := ⟨_, rfl⟩
      rw [← hK0] at HH ⊢
      clear hK0
      go_wp2_with fail
      ((with_reducible refine HH.out.mono ?_); rintro e w1 ⟨rfl, hb2⟩)
      have HB2 := Lib.hid hb2
      clear hb2
      go_wp2
      go_roundw
      case rel => exact ⟨j + 1, by go_num, by rw [HK1.out], by omega, hb1.trans (HB2.out.mono hzr)⟩
      case measure => simp [intOf]; omega
    · obtain rfl : j = outs.length := by omega
      go_wp2
      go_ret
      exact ⟨rfl, hb1⟩

set_option maxHeartbeats 800000 in
theorem markBS_any (A : Option Addr) (c : Nat) (outs : List (List ByteArray)) (k : Nat) (w : World) (lo : Nat) (h : FrR w lo 60 9 (.slice A outs.length c) (outs.map scells)) (hlo : lo ≤ w.heap.size) (hk : 1 ≤ k) (hb : k + offB outs outs.length ≤ 10000000) :
    Calls Tryd.prog 43 #[.slice A outs.length c, .int .i64 k] w fun e w' => e = .returned (.int .i64 (k + offB outs outs.length : Nat)) ∧ FrR w' lo 60 9 (.slice A outs.length c) ((mkBS k outs outs.length).map scells) ∧ Below lo w w' := by
  obtain ⟨h1, h2⟩ := h.rdBS.len
  have HOFF : Hid (∀ j, j < outs.length → offB outs (j + 1) = offB outs j + (gss outs j).length ∧ offB outs (j + 1) ≤ offB outs outs.length) := fun j hj => ⟨rfl, offB_le outs hj⟩
  have HG : Hid (∀ j, j < outs.length → gss (mkBS k outs j) j = gss outs j) := fun j hj => by rw [gss_mk k outs j j hj, if_neg (by omega)]
  have HMK : Hid (∀ j, mkBS k outs (j + 1) = (mkBS k outs j).set j (marks (k + offB outs j) (gss outs j).length)) := fun j => rfl
  have HML : Hid (∀ j, (mkBS k outs j).length = outs.length) := fun j => mkBS_len k outs j
  go_enter Tryd.func43, Tryd.ntmps43
  go_wp2
  go_loopw [1, 5] (fun k' i wr => ∃ j : Nat, i = .int .i64 j ∧ k' = .int .i64 (k + offB outs j : Nat) ∧ j ≤ outs.length ∧ FrR wr lo 60 9 (.slice A outs.length c) ((mkBS k outs j).map scells) ∧ Below lo w wr ∧ lo ≤ wr.heap.size) (fun _ i _ => outs.length - (intOf i).toNat)
  case atStart => exact ⟨0, rfl, rfl, by omega, h, Below.refl _ _, hlo⟩
  case round =>
    clear h
    obtain ⟨j, rfl, rfl, hj, fr, hb1, hz⟩ := hrel
    by_cases hlt : j < outs.length
    · have FR := Lib.hid fr
      obtain ⟨us, p1, p2, p3⟩ := fr
      have hml := HML.out j
      have hul : us.length = outs.length := by rw [p2.1, List.length_map, hml]
      obtain ⟨Aj, cj, k1, k2⟩ := p2.2.1 j (by rw [List.length_map, hml]; exact hlt)
      rw [gc_outs, HG.out j hlt, scells_len] at k1
      rw [gc_outs, HG.out j hlt, scells_len] at k2
      obtain ⟨g, hA, -, -, hgz, hgc, -⟩ := p1.at (by omega)
      subst hA
      have c1 := hgc j _ k1
      obtain ⟨hoj, hol⟩ := HOFF.out j hlt
      have HMR : Hid (Calls Tryd.prog 101 #[.slice Aj (gss outs j).length cj, .int .i64 (k + offB outs j : Nat)] wr fun e w' => e = .returned (.int .i64 (k + offB outs (j + 1) : Nat)) ∧ Own w' lo 9 (.slice Aj (gss outs j).length cj) (scells (marks (k + offB outs j) (gss outs j).length)) ∧ wr.grownBy w' (Value.slice Aj (gss outs j).length cj).ownBlock) := by
        have := markStrG_any Aj cj (gss outs j) (k + offB outs j) wr lo k2 hz (by omega) (by omega)
        exact this.mono fun e w' ⟨h1, h2⟩ => ⟨by rw [h1, hoj, Nat.add_assoc], h2⟩
      have HU := Lib.hid k1; have HK := Lib.hid k2
      have hzb := hb1.size
      clear k1 k2 p1 p2 p3 hgc
      obtain ⟨K1, hK1⟩ : ∃ K1, K1 = k + offB outs (j + 1) := ⟨_, rfl⟩
      rw [← hK1] at HMR
      have HK1 := Lib.hid hK1
      clear hK1
      obtain ⟨K0, hK0⟩ : ∃ K0, K0 = k + offB outs j := ⟨_, rfl⟩
      rw [← hK0] at HMR ⊢
      have HK0 := Lib.hid hK0
      clear hK0 hoj hol
      go_wp2_with fail
      ((with_reducible refine HMR.out.mono ?_); rintro e w1 ⟨rfl, ho1, hg1⟩)
      have HFR : Hid (FrR w1 lo 60 9 (.slice (some ⟨g, 0, none⟩) outs.length c) ((mkBS k outs (j + 1)).map scells)) := by
        show FrR _ _ _ _ _ _
        rw [HMK.out, List.map_set, ← HK0.out]
        by_cases hbn : (Value.slice Aj (gss outs j).length cj).ownBlock = none
        · obtain ⟨us', q1, q2, q3⟩ := FR.out
          have hz0 : (gss outs j).length = 0 := by
            rcases HK.out.2 with ⟨hv, h0⟩ | ⟨g', cap, cur, hv, _⟩
            · rw [scells_len] at h0; exact h0
            · rw [hv] at hbn; simp [Value.ownBlock] at hbn
          have e0 : (mkBS k outs j).map scells = ((mkBS k outs j).map scells).set j (scells (marks K0 (gss outs j).length)) := by
            have hjl : j < ((mkBS k outs j).map scells).length := by rw [List.length_map, HML.out]; exact hlt
            have hg0 : ((mkBS k outs j).map scells)[j]? = some [] := by
              have := gc_outs (mkBS k outs j) j
              rw [HG.out j hlt, List.eq_nil_of_length_eq_zero hz0] at this
              unfold gc at this
              rw [List.getD_eq_getElem?_getD, List.getElem?_eq_getElem hjl] at this
              rw [List.getElem?_eq_getElem hjl]
              simpa [scells] using this
            rw [hz0]
            apply List.ext_getElem?
            intro i
            by_cases e : j = i
            · subst e
              rw [List.getElem?_set_self hjl, hg0]; rfl
            · rw [List.getElem?_set_ne e]
          rw [← e0]
          rw [hbn] at hg1
          exact FR.out.grownLow hg1 (fun g hg => by cases hg)
        · obtain ⟨gj, hgj⟩ := Option.ne_none_iff_exists'.1 hbn
          refine FrR.mark (i := j) (u := .slice Aj (gss outs j).length cj) FR.out (fun cs q1 q2 => ?_) hgj (by rw [List.length_map, HML.out]; exact hlt) (by rw [gc_outs, HG.out j hlt, scells_len, scells_len, marks_len]) ho1 (by rw [← hgj]; exact hg1)
          have hlt2 : j < cs.length := by rw [q2.1, List.length_map, HML.out]; exact hlt
          obtain ⟨A0, c0, e1, -⟩ := q2.2.1 j (by rw [List.length_map, HML.out]; exact hlt)
          obtain ⟨g', hA', -, -, -, hgc', -⟩ := q1.at (by omega)
          injection hA' with hA'
          injection hA' with hA'
          subst hA'
          have e2 := hgc' j _ e1
          rw [c1] at e2
          injection e2 with e2
          rw [e1, e2]
      have hbl : Below lo w w1 := hb1.grown hg1 hz fun g' hg' => (HK.out.lt g' hg').1
      have hz1 := hg1.size
      have HBL := Lib.hid hbl
      clear ho1 hg1 hbl
      go_wp2
      go_roundw
      case rel => exact ⟨j + 1, by go_num, by rw [HK1.out], by omega, HFR.out, HBL.out, by omega⟩
      case measure => simp [intOf]; omega
    · obtain rfl : j = outs.length := by omega
      have HF := Lib.hid fr; clear fr
      go_wp2
      go_ret
      exact ⟨rfl, HF.out, hb1⟩
end Go.Proofs.YtadljglcbieifaaDoor
