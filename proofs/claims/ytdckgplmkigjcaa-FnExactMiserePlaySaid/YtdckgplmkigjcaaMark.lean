/- The laws' own helpers on lists of lists of integers: eqIntSS, markIntSS, heldIntSS, by contracts. Conditions: none. -/
import Derived.Test.YtdckgplmkigjcaaFresh
import Derived.Test.YtdckgplmkigjcaaSl
import Derived.Test.YtdckgplmkigjcaaRow1
namespace Go.Proofs.Ytdckgplmkigjcaa
open Go.RowKit
set_option linter.unusedVariables false

/-- How many numbers the first i lists hold. -/
def off (xss : List (List Int)) : Nat → Nat
  | 0 => 0
  | i + 1 => off xss i + (gl xss i).length
theorem off_le (xss : List (List Int)) {i j : Nat} (h : i ≤ j) : off xss i ≤ off xss j := by
  induction j with
  | zero => rw [show i = 0 by omega]; exact Nat.le_refl _
  | succ j ih =>
    by_cases hij : i = j + 1
    · rw [hij]; exact Nat.le_refl _
    · have := ih (by omega)
      rw [off]; omega
/-- The first i lists hold the numbers from k on. -/
def mk (k : Int) (xss : List (List Int)) : Nat → List (List Int)
  | 0 => xss
  | i + 1 => (mk k xss i).set i (numRow (k + off xss i) (gl xss i).length)
theorem mk_len (k : Int) (xss : List (List Int)) (i : Nat) : (mk k xss i).length = xss.length := by
  induction i with
  | zero => rfl
  | succ i ih => rw [mk, List.length_set, ih]
theorem gl_mk (k : Int) (xss : List (List Int)) (i j : Nat) (hj : j < xss.length) : gl (mk k xss i) j = if j < i then numRow (k + off xss j) (gl xss j).length else gl xss j := by
  induction i with
  | zero => simp [mk]
  | succ i ih =>
    rw [mk]
    by_cases hij : i = j
    · subst hij
      have : gl ((mk k xss i).set i (numRow (k + off xss i) (gl xss i).length)) i = numRow (k + off xss i) (gl xss i).length := by
        simp [gl, mk_len, hj]
      rw [this, if_pos (by omega)]
    · have : gl ((mk k xss i).set i (numRow (k + off xss i) (gl xss i).length)) j = gl (mk k xss i) j := by
        simp [gl, List.getElem?_set_ne hij]
      rw [this, ih]
      by_cases h1 : j < i
      · rw [if_pos h1, if_pos (by omega)]
      · rw [if_neg h1, if_neg (by omega)]
theorem map_set_ints (xss : List (List Int)) (i : Nat) (ys : List Int) : (xss.map ints).set i (ints ys) = (xss.set i ys).map ints := by rw [List.map_set]
theorem FrR.lenI {w : World} {lo : Nat} {E e : TypeId} {A : Option Addr} {n c : Nat} {xss : List (List Int)} (h : FrR w lo E e (.slice A n c) (xss.map ints)) : n = xss.length := by
  obtain ⟨A', c', hv⟩ := h.form
  injection hv with _ h2 _
  rw [h2, List.length_map]
theorem FrR.rowAt {w : World} {lo : Nat} {E : TypeId} {A : Option Addr} {n c : Nat} {xss : List (List Int)} (h : FrR w lo E 3 (.slice A n c) (xss.map ints)) {i : Nat} (hi : i < xss.length) :
    ∃ b Ai ci, A = some ⟨b, 0, none⟩ ∧ b < w.heap.size ∧ w.cell? ⟨b, i, none⟩ = some (.slice Ai (gl xss i).length ci) ∧ Own w lo 3 (.slice Ai (gl xss i).length ci) (ints (gl xss i)) ∧
      (∀ cs, Own w lo E (.slice A n c) cs → FrC w lo 3 cs (xss.map ints) → cs[i]? = some (.slice Ai (gl xss i).length ci)) ∧
      ∀ g, (Value.slice Ai (gl xss i).length ci).ownBlock = some g → b ≠ g := by
  obtain ⟨cs, h1, h2, h3⟩ := h
  obtain ⟨Ai, ci, k1, k2⟩ := h2.2.1 i (by rw [List.length_map]; exact hi)
  rw [gc_ints, ints_len] at k1 k2
  obtain ⟨b, hA, -, -, hb, hc, -⟩ := h1.at (by rw [h2.1, List.length_map]; omega)
  have hci := hc i _ k1
  refine ⟨b, Ai, ci, hA, hb, hci, k2, fun cs' g1 g2 => ?_, fun g hg he => ?_⟩
  · obtain ⟨Aj, cj, l1, l2⟩ := g2.2.1 i (by rw [List.length_map]; exact hi)
    rw [hA] at g1
    obtain ⟨b', hA', -, -, -, hc', -⟩ := g1.at (by rw [g2.1, List.length_map]; omega)
    injection hA' with hA'
    injection hA' with hA'
    subst hA'
    have := hc' i _ l1
    rw [hci] at this
    rw [l1]; exact this.symm
  · subst he
    exact h3 i _ b k1 hg (by rw [hA]; rfl)

set_option maxHeartbeats 800000 in
theorem markRows_any (A : Option Addr) (c : Nat) (xss : List (List Int)) (k : Int) (w : World) (lo : Nat) (h : FrR w lo 22 3 (.slice A xss.length c) (xss.map ints)) (hlo : lo ≤ w.heap.size) (hk : 0 ≤ k) (hb : k + off xss xss.length ≤ 1000000000000000) :
    Calls Try.prog 23 #[.slice A xss.length c, .int .i64 k] w fun e w' =>
      e = .returned (.int .i64 (k + off xss xss.length)) ∧ FrR w' lo 22 3 (.slice A xss.length c) ((mk k xss xss.length).map ints) ∧ Below lo w w' := by
  have h1 := h.rd.len
  have h2 := h.rd.max
  have hoff : Hid (∀ j, j < xss.length → off xss j + (gl xss j).length ≤ off xss xss.length) := fun j hj => off_le xss (show j + 1 ≤ xss.length by omega)
  go_enter Try.func23, Try.ntmps23
  go_wp2
  go_loopw [1, 5] (fun k' i wr => ∃ j : Nat, i = .int .i64 j ∧ k' = .int .i64 (k + off xss j) ∧ j ≤ xss.length ∧ FrR wr lo 22 3 (.slice A xss.length c) ((mk k xss j).map ints) ∧ Below lo w wr)
    (fun _ i _ => xss.length - (intOf i).toNat)
  case atStart => exact ⟨0, rfl, by simp [off], by omega, h, Below.refl _ _⟩
  case round =>
    clear h
    obtain ⟨j, rfl, rfl, hj, ho, hbl⟩ := hrel
    by_cases hlt : j < xss.length
    · obtain ⟨b, Ai, ci, rfl, hbz, hc, hrow, hcs, hne⟩ := ho.rowAt (i := j) (by rw [mk_len]; exact hlt)
      have HCS := Lib.hid hcs; clear hcs
      rw [gl_mk k xss j j hlt, if_neg (by omega)] at hc hrow hne HCS
      have hoj := hoff.out j hlt
      have hoff1 : off xss (j + 1) = off xss j + (gl xss j).length := rfl
      have HO := Lib.hid ho; clear ho
      have HM := Lib.hid hoff1; clear hoff1
      have HR := Lib.hid hrow; clear hrow
      go_wp2_with fail
      refine (markRow_any Ai ci (gl xss j) (k + off xss j) wr lo HR.out (by omega) (by omega)).mono ?_; rintro e w1 ⟨rfl, ho1, hg1⟩
      go_wp2
      go_roundw
      case rel =>
        have hbl1 : Below lo w w1 := by
          refine hbl.grown hg1 (Nat.le_trans hlo hbl.size) fun g hg => ?_
          exact (HR.out.lt g hg).1
        refine ⟨j + 1, by go_num, by rw [HM.out]; go_num, by omega, ?_, hbl1⟩
        cases hx : (Value.slice Ai (gl xss j).length ci).ownBlock with
        | some g =>
          rw [hx] at hg1
          rw [mk, ← map_set_ints]
          exact HO.out.mark HCS.out hx (by rw [List.length_map, mk_len]; exact hlt) (by rw [gc_ints, gl_mk k xss j j hlt, if_neg (by omega), ints_len, ints_len, numRow_len]) ho1 hg1
        | none =>
          have hz : (gl xss j).length = 0 := by
            rcases HR.out.2 with ⟨_, h0⟩ | ⟨g, cap, cur, hv, _⟩
            · rw [ints_len] at h0; exact h0
            · rw [hv] at hx; cases hx
          have e1 : mk k xss (j + 1) = mk k xss j := by
            rw [mk]
            refine List.ext_getElem (by simp) fun t ht ht' => ?_
            by_cases htj : j = t
            · subst htj
              have e2 : gl (mk k xss j) j = gl xss j := by rw [gl_mk k xss j j hlt, if_neg (by omega)]
              have e3 : gl xss j = [] := List.eq_nil_of_length_eq_zero hz
              rw [List.getElem_set_self, ← gl_lt ht', e2, e3]; rfl
            · rw [List.getElem_set_ne htj]
          rw [e1]
          rw [hx] at hg1
          exact HO.out.below ⟨hg1.os, hg1.tape, hg1.output, hg1.size, fun k hk => hg1.block k hk (by simp)⟩
      case measure => simp [intOf]; omega
    · obtain rfl : j = xss.length := by omega
      go_wp2
      go_ret
      exact ⟨rfl, ho, hbl⟩

set_option maxHeartbeats 800000 in
theorem heldRows_any (A : Option Addr) (c : Nat) (yss : List (List Int)) (k : Int) (o : Nat → Nat) (w : World) (lo B : Nat) (hB : B ≤ w.heap.size) (h : RdR w lo B A c yss) (hk : 0 ≤ k) (h0 : o 0 = 0) (hs : ∀ j, j < yss.length → o (j + 1) = o j + (gl yss j).length)
    (hv : ∀ j, j < yss.length → gl yss j = numRow (k + o j) (gl yss j).length) (hb : ∀ j, j ≤ yss.length → k + o j ≤ 1000000000000000) :
    Calls Try.prog 24 #[.slice A yss.length c, .int .i64 k] w fun e w' => e = .returned (.int .i64 (k + o yss.length)) ∧ w = w' := by
  have h1 := h.len
  have h2 := h.max
  have HS := Lib.hid hs; have HV := Lib.hid hv; have HB := Lib.hid hb; clear hs hv hb
  go_enter Try.func24, Try.ntmps24
  go_wp2
  go_loop [1, 5] (fun k' i => ∃ j : Nat, i = .int .i64 j ∧ k' = .int .i64 (k + o j) ∧ j ≤ yss.length) (fun _ i => yss.length - (intOf i).toNat)
  case atStart => exact ⟨0, rfl, by simp [h0], by omega⟩
  case round =>
    obtain ⟨j, rfl, rfl, hj⟩ := hrel
    by_cases hlt : j < yss.length
    · obtain ⟨b, ob, rfl, hbB, hc⟩ := h.at (j := j) hlt
      obtain ⟨Aj, cj, hcj, hrj⟩ := hc j hlt
      clear hc
      have hsj := HS.out j hlt
      have hbj := HB.out (j + 1) (by omega)
      rw [HV.out j hlt] at hrj
      have hcall := heldRow_any Aj cj (gl yss j).length (k + o j) w B hrj (by omega) (by omega)
      have e1 : k + (o j : Int) + ((gl yss j).length : Int) = k + (o (j + 1) : Int) := by rw [hsj]; omega
      rw [e1] at hcall
      have HC := Lib.hid hcall; clear hcall e1 hsj hrj
      go_wp2_with fail
      refine HC.out.mono ?_; rintro e w1 ⟨rfl, rfl⟩
      have hnn : ¬ k + (o (j + 1) : Int) < 0 := by omega
      go_wp2
      go_round
      case rel => exact ⟨j + 1, by go_num, rfl, by omega⟩
      case measure => simp [intOf]; omega
    · obtain rfl : j = yss.length := by omega
      go_wp2
      go_ret
      exact ⟨rfl, rfl⟩

set_option maxHeartbeats 800000 in
theorem eqRows_any (A A' : Option Addr) (c c' : Nat) (xss yss : List (List Int)) (w : World) (lo lo' B : Nat) (hB : B ≤ w.heap.size) (h : RdR w lo B A c xss) (h' : RdR w lo' B A' c' yss) :
    Calls Try.prog 21 #[.slice A xss.length c, .slice A' yss.length c'] w fun e w' => e = .returned (.bool (decide (xss = yss))) ∧ Below w.heap.size w w' := by
  have h1 := h.len
  have h2 := h.max
  have h3 := h'.len
  have h4 := h'.max
  by_cases hl : xss.length = yss.length
  · have hne : ((xss.length : Int) != (yss.length : Int)) = false := by simp [hl]
    have HL := Lib.hid hl; clear hl
    go_enter Try.func21, Try.ntmps21
    go_wp2
    go_loopw [5] (fun i wr => ∃ k : Nat, i = .int .i64 k ∧ k ≤ xss.length ∧ (∀ j, j < k → gl xss j = gl yss j) ∧ Below w.heap.size w wr)
      (fun i _ => xss.length - (intOf i).toNat)
    case atStart => exact ⟨0, rfl, by omega, fun j hj => absurd hj (by omega), Below.refl _ _⟩
    case round =>
      obtain ⟨k, rfl, hk, hs, hb⟩ := hrel
      have HS := Lib.hid hs; clear hs
      have hzr := hb.size
      by_cases hlt : k < xss.length
      · have hlt' : k < yss.length := by rw [← HL.out]; exact hlt
        obtain ⟨b, o, rfl, hbB, hc⟩ := (h.below hb hB).at (j := k) hlt
        obtain ⟨b', o', rfl, hbB', hc'⟩ := (h'.below hb hB).at (j := k) hlt'
        obtain ⟨Ak, ck, hc1, hr1⟩ := hc k hlt
        obtain ⟨Ak', ck', hc2, hr2⟩ := hc' k hlt'
        clear hc hc'
        have HR1 : Hid (∀ x : Wd (Below wr.heap.size wr), RdI (inst _ x) B Ak ck (gl xss k)) := fun x => hr1.below (inst_inv x) (by omega)
        have HR2 : Hid (∀ x : Wd (Below wr.heap.size wr), RdI (inst _ x) B Ak' ck' (gl yss k)) := fun x => hr2.below (inst_inv x) (by omega)
        have hx1 := fun x => (grow_cell b (o + k) (show b < wr.heap.size by omega) x).trans hc1
        have hx2 := fun x => (grow_cell b' (o' + k) (show b' < wr.heap.size by omega) x).trans hc2
        clear hr1 hr2 hc1 hc2
        by_cases he : gl xss k = gl yss k
        · have ht : decide (gl xss k = gl yss k) = true := decide_eq_true he
          have HE := Lib.hid he; clear he
          go_wp2
          refine wp_region_inv (Below wr.heap.size wr) (grow0 _) (by kernel_rfl) (by kernel_rfl) ?_
          repeat (go_big_quiet_step ((go_at_call 18; exact grow_step (eqIntS_any _ _ _ _ _ _ _ B (by exact Nat.le_trans (by omega) (grow_size _)) (HR1.out _) (HR2.out _)))))
          refine wpQuiet_nil ?_
          intro w2 hw'
          have hb2 := grow_of hw'
          clear hw'
          go_wp2
          go_roundw
          case rel => exact ⟨k + 1, by go_num, by omega, fun j hj => if hjk : j = k then by rw [hjk]; exact HE.out else HS.out j (by omega), hb.trans (hb2.mono hzr)⟩
          case measure => simp [intOf]; omega
        · have ht : decide (gl xss k = gl yss k) = false := decide_eq_false he
          have HE : Hid (¬ gl xss k = gl yss k) := he
          clear he
          go_wp2
          refine wp_region_inv (Below wr.heap.size wr) (grow0 _) (by kernel_rfl) (by kernel_rfl) ?_
          repeat (go_big_quiet_step ((go_at_call 18; exact grow_step (eqIntS_any _ _ _ _ _ _ _ B (by exact Nat.le_trans (by omega) (grow_size _)) (HR1.out _) (HR2.out _)))))
          refine wpQuiet_nil ?_
          intro w2 hw'
          have hb2 := grow_of hw'
          clear hw'
          go_wp2
          go_ret
          refine ⟨ret_bool ?_, hb.trans (hb2.mono hzr)⟩
          rw [Bool.false_eq, decide_eq_false_iff_not]
          intro hxy
          exact HE.out (by rw [hxy])
      · go_wp2
        go_ret
        refine ⟨ret_bool ?_, hb⟩
        rw [Bool.true_eq, decide_eq_true_eq]
        refine List.ext_getElem HL.out fun j hj hj' => ?_
        have := HS.out j (by omega)
        rwa [gl_lt hj, gl_lt hj'] at this
  · have hne : ((xss.length : Int) != (yss.length : Int)) = true := by simp; omega
    have hxy : ¬ xss = yss := fun h => hl (by rw [h])
    go_enter Try.func21, Try.ntmps21
    go_wp2
    go_ret
    exact ⟨by simp [hxy], Below.refl _ _⟩
end Go.Proofs.Ytdckgplmkigjcaa
