/- The laws' own helpers on points. Conditions: none. -/
import Derived.Test.YtidfbbegjpfjpaaWal2
import Derived.Test.YtidfbbegjpfjpaaSl
import Derived.Deep.RegionHeld3
namespace Go.Proofs.Ytidfbbegjpfjpaa
open Go.RowKit
set_option linter.unusedVariables false

theorem infoPoint : (Try.prog.info? 53).map (fun i => (i.zero, i.size, i.bytes)) = some (some (.agg #[.int .i64 0, .int .i64 0, .int .i64 0, .int .i64 0]), 4, 32) := by kernel_rfl
/-- The cells of the first k points. -/
def ptC (xs : List Pt) : Nat → List Value
  | 0 => []
  | k + 1 => ptC xs k ++ [.int .i64 (gp xs k).t, .int .i64 (gp xs k).p, .int .i64 (gp xs k).u, .int .i64 (gp xs k).q]
theorem ptC_len (xs : List Pt) (k : Nat) : (ptC xs k).length = k * 4 := by
  induction k with
  | zero => rfl
  | succ k ih => show (ptC xs k ++ _).length = _; rw [List.length_append, ih]; simp; omega
theorem ptC_at (xs : List Pt) (k i : Nat) (h : i < k) : (ptC xs k)[i * 4]? = some (.int .i64 (gp xs i).t) ∧ (ptC xs k)[i * 4 + 1]? = some (.int .i64 (gp xs i).p) ∧ (ptC xs k)[i * 4 + 2]? = some (.int .i64 (gp xs i).u) ∧ (ptC xs k)[i * 4 + 3]? = some (.int .i64 (gp xs i).q) := by
  induction k with
  | zero => omega
  | succ k ih =>
    show (ptC xs k ++ _)[_]? = _ ∧ (ptC xs k ++ _)[_]? = _ ∧ (ptC xs k ++ _)[_]? = _ ∧ (ptC xs k ++ _)[_]? = _
    have hl := ptC_len xs k
    by_cases hik : i = k
    · subst hik
      rw [List.getElem?_append_right (by omega), List.getElem?_append_right (by omega), List.getElem?_append_right (by omega), List.getElem?_append_right (by omega), hl]
      simp
    · rw [List.getElem?_append_left (by omega), List.getElem?_append_left (by omega), List.getElem?_append_left (by omega), List.getElem?_append_left (by omega)]
      exact ih (by omega)
theorem rep_at (L : List Value) (z : Value) (m j : Nat) (h : j < m) : (L ++ List.replicate m z)[L.length + j]? = some z := by
  rw [List.getElem?_append_right (by omega), Nat.add_sub_cancel_left, List.getElem?_replicate, if_pos h]
theorem rep_set (L : List Value) (z a b c d : Value) (m : Nat) :
    ((((L ++ List.replicate ((m + 1) * 4) z).set L.length a).set (L.length + 1) b).set (L.length + 2) c).set (L.length + 3) d = (L ++ [a, b, c, d]) ++ List.replicate (m * 4) z := by
  have e : List.replicate ((m + 1) * 4) z = z :: z :: z :: z :: List.replicate (m * 4) z := by
    rw [show (m + 1) * 4 = m * 4 + 1 + 1 + 1 + 1 by omega]; rfl
  rw [e]
  have hs : ∀ (M : List Value) (j : Nat) (u : Value), (L ++ M).set (L.length + j) u = L ++ M.set j u := fun M j u => by
    rw [List.set_append_right _ _ (by omega)]; congr 1; congr 1; omega
  have h0 := hs (z :: z :: z :: z :: List.replicate (m * 4) z) 0 a
  rw [Nat.add_zero] at h0
  rw [h0, hs, hs, hs, List.append_assoc]
  rfl

set_option maxHeartbeats 800000 in
theorem toPoint_any (t p u q : Int) (w : World) :
    Calls Try.prog 23 #[.agg #[.int .i64 t, .int .i64 p, .int .i64 u, .int .i64 q]] w fun e w' => e = .returned (.agg #[.int .i64 t, .int .i64 p, .int .i64 u, .int .i64 q]) ∧ Below w.heap.size w w' := by
  have HD := Lib.hid (fun a b W => toDy_any a b W)
  go_enter Try.func23, Try.ntmps23
  go_wp2_with fail
  have hB := box3 w 56 53 53 #[.int .i64 t, .int .i64 p, .int .i64 u, .int .i64 q] #[.int .i64 0, .int .i64 0, .int .i64 0, .int .i64 0] #[.int .i64 0, .int .i64 0, .int .i64 0, .int .i64 0]
  generalize ((w.alloc (.cells #[.int .i64 t, .int .i64 p, .int .i64 u, .int .i64 q] 56)).alloc (.cells #[.int .i64 0, .int .i64 0, .int .i64 0, .int .i64 0] 53)).alloc (.cells #[.int .i64 0, .int .i64 0, .int .i64 0, .int .i64 0] 53) = W at *
  obtain ⟨b1, b2, b3, hbW, hzW⟩ := hB
  ((with_reducible refine (HD.out _ _ _).mono ?_); rintro e w1 ⟨rfl, hb1⟩)
  have c1 := b1.below hb1 (by omega)
  have c2 := b2.below hb1 (by omega)
  have c3 := b3.below hb1 (by omega)
  have g1 := hbW.trans (hb1.mono (by omega))
  have hz1 := hb1.size
  clear b1 b2 b3 hb1 hbW
  have x0 : w1.cell? ⟨w.heap.size + 1 + 1, 0, none⟩ = some (.int .i64 0) := c3.cell 0
  have x1 : w1.cell? ⟨w.heap.size + 1 + 1, 1, none⟩ = some (.int .i64 0) := c3.cell 1
  have f0 : w1.frozen? ⟨w.heap.size + 1 + 1, 0, none⟩ = false := c3.frozen 0
  have f1 : w1.frozen? ⟨w.heap.size + 1 + 1, 1, none⟩ = false := c3.frozen 1
  have a2 : w1.cell? ⟨w.heap.size, 2, none⟩ = some (.int .i64 u) := c1.cell 2
  have a3 : w1.cell? ⟨w.heap.size, 3, none⟩ = some (.int .i64 q) := c1.cell 3
  go_wp2_with fail
  have d3 : Blk ((w1.setCell ⟨w.heap.size + 1 + 1, 0, none⟩ (.int .i64 t)).setCell ⟨w.heap.size + 1 + 1, 1, none⟩ (.int .i64 p)) (w.heap.size + 1 + 1) 53 #[.int .i64 t, .int .i64 p, .int .i64 0, .int .i64 0] := (c3.set 0 _).set 1 _
  have d2 : Blk ((w1.setCell ⟨w.heap.size + 1 + 1, 0, none⟩ (.int .i64 t)).setCell ⟨w.heap.size + 1 + 1, 1, none⟩ (.int .i64 p)) (w.heap.size + 1) 53 #[.int .i64 0, .int .i64 0, .int .i64 0, .int .i64 0] := (c2.far (by simp) _).far (by simp) _
  have g2 : Below w.heap.size w ((w1.setCell ⟨w.heap.size + 1 + 1, 0, none⟩ (.int .i64 t)).setCell ⟨w.heap.size + 1 + 1, 1, none⟩ (.int .i64 p)) := (g1.setCell (by simp; omega) _).setCell (by simp; omega) _
  clear c1 c2 c3 g1 x0 x1 f0 f1 a2 a3
  generalize (w1.setCell ⟨w.heap.size + 1 + 1, 0, none⟩ (.int .i64 t)).setCell ⟨w.heap.size + 1 + 1, 1, none⟩ (.int .i64 p) = W2 at *
  ((with_reducible refine (HD.out _ _ _).mono ?_); rintro e w3 ⟨rfl, hb3⟩)
  have e3 := d3.below hb3 d3.lt
  have e2 := d2.below hb3 d2.lt
  have g3 := g2.trans (hb3.mono g2.size)
  have x0 : w3.cell? ⟨w.heap.size + 1 + 1, 0, none⟩ = some (.int .i64 t) := e3.cell 0
  have x1 : w3.cell? ⟨w.heap.size + 1 + 1, 1, none⟩ = some (.int .i64 p) := e3.cell 1
  have x2 : w3.cell? ⟨w.heap.size + 1 + 1, 2, none⟩ = some (.int .i64 0) := e3.cell 2
  have x3 : w3.cell? ⟨w.heap.size + 1 + 1, 3, none⟩ = some (.int .i64 0) := e3.cell 3
  have f2 : w3.frozen? ⟨w.heap.size + 1 + 1, 2, none⟩ = false := e3.frozen 2
  have f3 : w3.frozen? ⟨w.heap.size + 1 + 1, 3, none⟩ = false := e3.frozen 3
  have y0 : w3.cell? ⟨w.heap.size + 1, 0, none⟩ = some (.int .i64 0) := e2.cell 0
  have y1 : w3.cell? ⟨w.heap.size + 1, 1, none⟩ = some (.int .i64 0) := e2.cell 1
  have y2 : w3.cell? ⟨w.heap.size + 1, 2, none⟩ = some (.int .i64 0) := e2.cell 2
  have y3 : w3.cell? ⟨w.heap.size + 1, 3, none⟩ = some (.int .i64 0) := e2.cell 3
  have z0 : w3.frozen? ⟨w.heap.size + 1, 0, none⟩ = false := e2.frozen 0
  have z1 : w3.frozen? ⟨w.heap.size + 1, 1, none⟩ = false := e2.frozen 1
  have z2 : w3.frozen? ⟨w.heap.size + 1, 2, none⟩ = false := e2.frozen 2
  have z3 : w3.frozen? ⟨w.heap.size + 1, 3, none⟩ = false := e2.frozen 3
  have G3 := Lib.hid g3
  clear e2 e3 d2 d3 g2 hb3 g3
  go_wp2
  refine bodyPost_ret (v := .agg #[.int .i64 t, .int .i64 p, .int .i64 u, .int .i64 q]) (by simp [results, Try.results23, go_sem, y0, y1, y2, y3]) rfl ⟨rfl, ?_⟩
  exact (((((G3.out.setCell (by simp; omega) _).setCell (by simp; omega) _).setCell (by simp) _).setCell (by simp) _).setCell (by simp) _).setCell (by simp) _

set_option maxHeartbeats 400000 in
theorem eqDy_same (a b : Int) (w : World) :
    Calls Try.prog 10 #[.agg #[.int .i64 a, .int .i64 b], .agg #[.int .i64 a, .int .i64 b]] w fun e w' => e = .returned (.bool true) ∧ Below w.heap.size w w' := by
  go_enter Try.func10, Try.ntmps10
  go_wp2
  go_ret
  exact ⟨rfl, bel2 _ _ _⟩
set_option maxHeartbeats 800000 in
theorem eqPoint_same (t p u q : Int) (w : World) :
    Calls Try.prog 30 #[.agg #[.int .i64 t, .int .i64 p, .int .i64 u, .int .i64 q], .agg #[.int .i64 t, .int .i64 p, .int .i64 u, .int .i64 q]] w fun e w' => e = .returned (.bool true) ∧ Below w.heap.size w w' := by
  have HD := Lib.hid (fun a b W => eqDy_same a b W)
  go_enter Try.func30, Try.ntmps30
  go_wp2_with fail
  have hB := box2 w 53 53 #[.int .i64 t, .int .i64 p, .int .i64 u, .int .i64 q] #[.int .i64 t, .int .i64 p, .int .i64 u, .int .i64 q]
  generalize (w.alloc (.cells #[.int .i64 t, .int .i64 p, .int .i64 u, .int .i64 q] 53)).alloc (.cells #[.int .i64 t, .int .i64 p, .int .i64 u, .int .i64 q] 53) = W at *
  obtain ⟨b1, b2, hbW, hzW⟩ := hB
  ((with_reducible refine (HD.out _ _ _).mono ?_); rintro e w1 ⟨rfl, hb1⟩)
  have c1 := b1.below hb1 (by omega)
  have c2 := b2.below hb1 (by omega)
  have g1 := hbW.trans (hb1.mono (by omega))
  have x2 : w1.cell? ⟨w.heap.size, 2, none⟩ = some (.int .i64 u) := c1.cell 2
  have x3 : w1.cell? ⟨w.heap.size, 3, none⟩ = some (.int .i64 q) := c1.cell 3
  have y2 : w1.cell? ⟨w.heap.size + 1, 2, none⟩ = some (.int .i64 u) := c2.cell 2
  have y3 : w1.cell? ⟨w.heap.size + 1, 3, none⟩ = some (.int .i64 q) := c2.cell 3
  clear b1 b2 hb1 hbW c1 c2
  go_wp2_with fail
  ((with_reducible refine (HD.out _ _ _).mono ?_); rintro e w2 ⟨rfl, hb2⟩)
  go_wp2
  go_ret
  exact ⟨rfl, gtr g1 hb2⟩

def RetP (w : World) (xs : List Pt) (e : Ending) (w' : World) : Prop :=
  ∃ A c, e = .returned (.slice A xs.length c) ∧ RdP w' w'.heap.size A c xs ∧ Below w.heap.size w w'
set_option maxHeartbeats 1600000 in
theorem toPointS_any (A : Option Addr) (c : Nat) (xs : List Pt) (w : World) (B : Nat) (hB : B ≤ w.heap.size) (h : RdP w B A c xs) (hn : xs.length ≤ 1048576) :
    Calls Try.prog 7 #[.slice A xs.length c] w (RetP w xs) := by
  have h1 := h.len
  have h2 := h.max
  obtain ⟨i0, hi, hz0, hzs, hzb⟩ := info_parts infoPoint
  have HT := Lib.hid (fun a b c d W => toPoint_any a b c d W)
  go_enter Try.func7, Try.ntmps7
  go_wp2_with (at_make; refine wpList_make_full _ rfl _ _ _ rfl w.heap.size 53 i0 (.agg #[.int .i64 0, .int .i64 0, .int .i64 0, .int .i64 0]) 4 Try.underlying29 hi hz0 hzs .i64 .i64 _ _ xs.length rfl rfl rfl rfl (by rw [hzb]; omega) (by unfold maxLen; omega) (Nat.le_refl _) ?_; intro w1 ho1 hg1)
  have hmade : (madeCells (Value.agg #[.int .i64 0, .int .i64 0, .int .i64 0, .int .i64 0]).cells (xs.length * 4)).toList = ptC xs 0 ++ List.replicate ((xs.length - 0) * 4) (.int .i64 0) := by
    show _ = [] ++ _
    rw [List.nil_append, Nat.sub_zero]
    refine List.ext_getElem (by simp [madeCells]) fun i h1 h2 => ?_
    simp only [madeCells, Array.toList_map, List.getElem_map, List.getElem_replicate, Array.toList_range, List.getElem_range]
    have : i % 4 = 0 ∨ i % 4 = 1 ∨ i % 4 = 2 ∨ i % 4 = 3 := by omega
    show (#[Value.int .i64 0, .int .i64 0, .int .i64 0, .int .i64 0])[i % 4]! = _
    rcases this with e | e | e | e <;> rw [e] <;> rfl
  rw [hmade] at ho1
  have hb1 := below_of_grown hg1
  have hz1 : w.heap.size < w1.heap.size := (ho1.lt _ rfl).2
  clear hmade hg1
  go_loopw [4] (fun i wr => ∃ k : Nat, i = .int .i64 k ∧ k ≤ xs.length ∧ wr.ownsRow w.heap.size 53 4 (.slice (some ⟨w.heap.size, 0, none⟩) xs.length xs.length) xs.length (ptC xs k ++ List.replicate ((xs.length - k) * 4) (.int .i64 0)) ∧ Below w.heap.size w wr ∧ w.heap.size < wr.heap.size)
    (fun i _ => xs.length - (intOf i).toNat)
  case atStart => exact ⟨0, rfl, by omega, ho1, hb1, hz1⟩
  case round =>
    clear ho1 hb1 hz1
    obtain ⟨k, rfl, hk, ho, hb, hz⟩ := hrel
    by_cases hlt : k < xs.length
    · obtain ⟨b, o, rfl, hbB, hc⟩ := (h.below hb hB).at (j := k) hlt
      obtain ⟨k0, k1, k2, k3⟩ := hc k hlt
      have HSC : Hid (ptC xs (k + 1) = ptC xs k ++ [.int .i64 (gp xs k).t, .int .i64 (gp xs k).p, .int .i64 (gp xs k).u, .int .i64 (gp xs k).q]) := rfl
      generalize gp xs k = X at *
      obtain ⟨t, p, u, q⟩ := X
      simp only at k0 k1 k2 k3 HSC
      have hHT := fun W => HT.out t p u q W
      have HTT := Lib.hid hHT
      clear hc hHT
      go_wp2_with fail
      ((with_reducible refine (HTT.out _).mono ?_); rintro e w2 ⟨rfl, hb2⟩)
      have ho2 := ownsRow_below ho hb2 (fun g hg => (ho.lt g hg).2)
      have hbb := hb.trans (hb2.mono hb.size)
      have hz2 : w.heap.size < w2.heap.size := Nat.lt_of_lt_of_le hz hb2.size
      rw [show xs.length - k = (xs.length - (k + 1)) + 1 by omega] at ho2
      have hl := ptC_len xs k
      have hcell : ∀ j, j < 4 → w2.cell? ⟨w.heap.size, k * 4 + j, none⟩ = some (.int .i64 0) := fun j hj => by
        rw [ho2.cellAt (k * 4 + j) (by omega), ← hl]
        exact rep_at _ _ _ _ (by omega)
      have x0 := hcell 0 (by omega)
      have x1 := hcell 1 (by omega)
      have x2 := hcell 2 (by omega)
      have x3 := hcell 3 (by omega)
      rw [Nat.add_zero] at x0
      have f0 : w2.frozen? ⟨w.heap.size, k * 4, none⟩ = false := ho2.frozenAt _
      have f1 : w2.frozen? ⟨w.heap.size, k * 4 + 1, none⟩ = false := ho2.frozenAt _
      have f2 : w2.frozen? ⟨w.heap.size, k * 4 + 2, none⟩ = false := ho2.frozenAt _
      have f3 : w2.frozen? ⟨w.heap.size, k * 4 + 3, none⟩ = false := ho2.frozenAt _
      have hs := (((((ho2.stored (k * 4) (.int .i64 t)).1).stored (k * 4 + 1) (.int .i64 p)).1.stored (k * 4 + 2) (.int .i64 u)).1.stored (k * 4 + 3) (.int .i64 q)).1
      rw [← hl, rep_set, ← HSC.out, hl] at hs
      have HS := Lib.hid hs
      have HB := Lib.hid hbb
      clear hs hcell ho2 hbb hb2 k0 k1 k2 k3
      go_wp2
      go_roundw
      case rel => exact ⟨k + 1, by go_num, by omega, HS.out, (((HB.out.setCell (by simp) _).setCell (by simp) _).setCell (by simp) _).setCell (by simp) _, by simpa using hz2⟩
      case measure => simp [intOf]; omega
    · obtain rfl : k = xs.length := by omega
      have HO := Lib.hid ho; have HB := Lib.hid hb
      clear ho hb
      go_wp2
      go_ret
      refine ⟨_, _, rfl, ⟨Nat.le_refl _, by unfold maxLen; omega, (fun e => by cases e), fun j hj => ⟨w.heap.size, 0, rfl, (HO.out.lt _ rfl).2, fun i hi => ?_⟩⟩, HB.out⟩
      have hc := HO.out.cells (g := w.heap.size) rfl
      rw [Nat.sub_self, Nat.zero_mul, List.replicate_zero, List.append_nil] at hc
      obtain ⟨y0, y1, y2, y3⟩ := ptC_at xs xs.length i hi
      have z0 := hc _ _ y0; have z1 := hc _ _ y1; have z2 := hc _ _ y2; have z3 := hc _ _ y3
      rw [add_none] at z0 z1 z2 z3
      exact ⟨z0, z1, z2, z3⟩

set_option maxHeartbeats 1600000 in
theorem eqPointS_same (A A' : Option Addr) (c c' : Nat) (xs : List Pt) (w : World) (B : Nat) (hB : B ≤ w.heap.size) (h : RdP w B A c xs) (h' : RdP w B A' c' xs) :
    Calls Try.prog 11 #[.slice A xs.length c, .slice A' xs.length c'] w fun e w' => e = .returned (.bool true) ∧ Below w.heap.size w w' := by
  have h1 := h.len
  have h2 := h.max
  have h3 := h'.len
  have h4 := h'.max
  have HE := Lib.hid (fun a b c d W => eqPoint_same a b c d W)
  have hne : ((xs.length : Int) != (xs.length : Int)) = false := by simp
  go_enter Try.func11, Try.ntmps11
  go_wp2
  go_loopw [5] (fun i wr => ∃ k : Nat, i = .int .i64 k ∧ k ≤ xs.length ∧ Below w.heap.size w wr) (fun i _ => xs.length - (intOf i).toNat)
  case atStart => exact ⟨0, rfl, by omega, Below.refl _ _⟩
  case round =>
    obtain ⟨k, rfl, hk, hb⟩ := hrel
    have hzr := hb.size
    by_cases hlt : k < xs.length
    · obtain ⟨b, o, rfl, hbB, hc⟩ := (h.below hb hB).at (j := k) hlt
      obtain ⟨b', o', rfl, hbB', hc'⟩ := (h'.below hb hB).at (j := k) hlt
      obtain ⟨k0, k1, k2, k3⟩ := hc k hlt
      obtain ⟨l0, l1, l2, l3⟩ := hc' k hlt
      generalize gp xs k = X at *
      obtain ⟨t, p, u, q⟩ := X
      simp only at k0 k1 k2 k3 l0 l1 l2 l3
      have HTT := Lib.hid (fun W => HE.out t p u q W)
      have hbr : b < wr.heap.size := by omega
      have hbr' : b' < wr.heap.size := by omega
      have hk0 := fun x => (grow_cell (w := wr) b (o + k * 4) hbr x).trans k0
      have hk1 := fun x => (grow_cell (w := wr) b (o + k * 4 + 1) hbr x).trans k1
      have hk2 := fun x => (grow_cell (w := wr) b (o + k * 4 + 2) hbr x).trans k2
      have hk3 := fun x => (grow_cell (w := wr) b (o + k * 4 + 3) hbr x).trans k3
      have hl0 := fun x => (grow_cell (w := wr) b' (o' + k * 4) hbr' x).trans l0
      have hl1 := fun x => (grow_cell (w := wr) b' (o' + k * 4 + 1) hbr' x).trans l1
      have hl2 := fun x => (grow_cell (w := wr) b' (o' + k * 4 + 2) hbr' x).trans l2
      have hl3 := fun x => (grow_cell (w := wr) b' (o' + k * 4 + 3) hbr' x).trans l3
      clear hc hc' k0 k1 k2 k3 l0 l1 l2 l3
      go_wp2
      refine wp_region_inv (Below wr.heap.size wr) (grow0 _) (by kernel_rfl) (by kernel_rfl) ?_
      repeat (go_big_quiet_step ((go_at_call 30; with_reducible exact grow_step (HTT.out _))))
      refine wpQuiet_nil ?_
      intro w2 hw'
      have hb2 := grow_of hw'
      clear hw'
      clear hk0 hk1 hk2 hk3 hl0 hl1 hl2 hl3
      go_wp2
      go_roundw
      case rel => exact ⟨k + 1, by go_num, by omega, hb.trans (hb2.mono hzr)⟩
      case measure => simp [intOf]; omega
    · go_wp2
      go_ret
      exact ⟨rfl, hb⟩
end Go.Proofs.Ytidfbbegjpfjpaa
