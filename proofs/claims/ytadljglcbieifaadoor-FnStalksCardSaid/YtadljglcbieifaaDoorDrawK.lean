/- Draws of stalks and of dyadic numbers. Conditions: none. -/
import Derived.Test.YtadljglcbieifaaDoorDrawS
import Derived.Test.YtadljglcbieifaaDoorDy1
namespace Go.Proofs.YtadljglcbieifaaDoor
open Go.RowKit
set_option linter.unusedVariables false

set_option maxRecDepth 100000 in
set_option maxHeartbeats 1600000 in
theorem drawStalk_any (w : World) (B g a : Nat) (most : Int) (h : Cur w B g a) (ha : a ≤ 100000000) (hm1 : 0 ≤ most) (hm2 : most ≤ 100) :
    Calls Tryd.prog 86 #[.pointer (some ⟨g, 0, none⟩), .int .i64 most] w (DrawnT w B g (a + 1000) 200) := by
  have hlt0 := h.lt
  go_enter Tryd.func86, Tryd.ntmps86
  go_wp2_with fail
  ((with_reducible refine (pickI _ _ _ _ _ h (by omega) (by omega) (by omega)).mono ?_); rintro e w1 ⟨x, ⟨hx0, hx1⟩, rfl, hc1, hg1⟩)
  obtain ⟨x, rfl⟩ := Int.eq_ofNat_of_zero_le hx0
  have HC1 := Lib.hid (hc1.more (show a + 2 ≤ a + 300 - 2 * x by omega)); have HG1 := Lib.hid hg1
  clear hc1 hg1 h
  go_wp2
  go_loopw [5, 6] (fun s' i wr => ∃ (k : Nat) (s : ByteArray), i = .int .i64 k ∧ k ≤ 100 ∧ s' = .string s ∧ s.size + k ≤ 101 ∧ Gb w.heap.size g w wr ∧ Cur wr B g (a + 300 - 2 * k)) (fun _ i _ => (intOf i).toNat)
  case atStart => exact ⟨x, _, rfl, by omega, rfl, by show 0 + x ≤ 101; omega, HG1.out, HC1.out⟩
  case round =>
    obtain ⟨k, s, rfl, hk, rfl, hsz, hg, hc⟩ := hrel
    clear HC1 HG1
    have hzr := hg.size
    by_cases hp : 0 < k
    · have hlr := hc.lt
      have hK2 : Blk (wr.alloc (.cells #[.string ⟨#[76]⟩, .string ⟨#[82]⟩, .string ⟨#[76]⟩] 9)) wr.heap.size 9 (scells [(⟨#[76]⟩ : ByteArray), (⟨#[82]⟩ : ByteArray), (⟨#[76]⟩ : ByteArray)]).toArray := Blk.new _ _ _
      have hr := rd_strs _ hK2 (by decide)
      have hof : Calls Tryd.prog 137 #[.pointer (some ⟨g, 0, none⟩), .slice (some ⟨wr.heap.size, 0, none⟩) 3 3] _ (DrawnT _ B g (a + 300 - 2 * k + 2) 1) := of_any _ B g (a + 300 - 2 * k) 1 (some ⟨wr.heap.size, 0, none⟩) 3 [(⟨#[76]⟩ : ByteArray), (⟨#[82]⟩ : ByteArray), (⟨#[76]⟩ : ByteArray)] (hc.below (bel1 _ _)) (by omega) hr (fun b hb => by injection hb with hb; subst hb; show g + 1 ≤ wr.heap.size; omega) (by decide) (by decide) (by decide)
      have HOF := Lib.hid hof
      have hg0 : Gb w.heap.size g w (wr.alloc (.cells #[.string ⟨#[76]⟩, .string ⟨#[82]⟩, .string ⟨#[76]⟩] 9)) := hg.trans (Gb.of_below ((bel1 _ _).mono hzr))
      have HG := Lib.hid hg0
      clear hr hof hK2 hg hc hg0
      go_wp2_with fail
      ((with_reducible refine HOF.out.mono ?_); rintro e w2 ⟨t, rfl, ht, hc2, hg2⟩)
      obtain ⟨st, hst⟩ : ∃ r, r = s ++ t := ⟨_, rfl⟩
      have hadd := fun w => run_string_add_sum (P := Tryd.prog) w s t (by omega)
      rw [← hst] at hadd
      have hzs : st.size ≤ s.size + 1 := by rw [hst, ByteArray.size_append]; omega
      clear hst
      go_wp2
      go_roundw
      case rel => exact ⟨k - 1, st, by go_num, by omega, rfl, by omega, HG.out.trans (hg2.mono (by have := HG.out.size; omega)), hc2.more (by omega)⟩
      case measure => simp [intOf]; omega
    · obtain rfl : k = 0 := by omega
      have HG := Lib.hid hg
      clear hg
      go_wp2_with fail
      ((with_reducible refine (oneI _ _ _ _ _ hc (by omega) (by decide) (by decide)).mono ?_); rintro e w3 ⟨b, rfl, hc3, hg3⟩)
      have HG3 := Lib.hid (HG.out.trans (hg3.mono hzr))
      have hz3 := HG3.out.size
      clear hg3 HG
      cases b
      · go_wp2
        go_ret
        exact ⟨s, rfl, by omega, hc3.more (by omega), HG3.out⟩
      · go_wp2_with fail
        ((with_reducible refine (spoilt_any _ _ _ _ s _ hc3 (by omega) (by omega) (by decide) (by decide)).mono ?_); rintro e w4 ⟨t, rfl, ht, hc4, hg4⟩)
        go_wp2
        go_ret
        exact ⟨t, rfl, by omega, hc4.more (by omega), HG3.out.trans (hg4.mono (by omega))⟩

/-- A new text. -/
def NewT (w : World) (m : Nat) (e : Ending) (w' : World) : Prop := ∃ s : ByteArray, e = .returned (.string s) ∧ s.size ≤ m ∧ Below w.heap.size w w'
set_option maxHeartbeats 800000 in
theorem drawStalkValue_any (A : Option Addr) (c : Nat) (bs : List Int) (w : World) (h : RdY w A c bs) :
    Calls Tryd.prog 27 #[.slice A bs.length c] w (NewT w 200) := by
  have hgs : Calls Tryd.prog 79 #[.slice A bs.length c] w (NewT w 200) := by
    go_enter Tryd.func79, Tryd.ntmps79
    go_wp2_with fail
    have hb0 := bel1 w (.cells #[.slice A bs.length c, .int .i64 0, .int .u64 0] 101)
    have hc0 := (Cur.new h)
    have HB0 := Lib.hid hb0
    clear h hb0
    generalize w.alloc (.cells #[.slice A bs.length c, .int .i64 0, .int .u64 0] 101) = W at *
    ((with_reducible refine (drawStalk_any _ _ _ _ 17 hc0 (by omega) (by decide) (by decide)).mono ?_); rintro e w1 ⟨s, rfl, hs, hc1, hg1⟩)
    have hb1 : Below w.heap.size w w1 := HB0.out.trans ((hg1.mono HB0.out.size).below (Nat.le_refl _))
    go_wp2
    go_ret
    exact ⟨s, rfl, hs, hb1⟩
  have HGS := Lib.hid hgs
  clear hgs
  go_enter Tryd.func27, Tryd.ntmps27
  go_wp2_with fail
  ((with_reducible refine HGS.out.mono ?_); rintro e w1 ⟨s, rfl, hs, hb1⟩)
  go_wp2
  go_ret
  exact ⟨s, rfl, hs, hb1⟩

theorem Cur.put {w : World} {B g a : Nat} (h : Cur w B g a) (p : Addr) (hp : g < p.block) (u : Value) : Cur (w.setCell p u) B g a :=
  h.ownb (row := some p.block) ⟨rfl, rfl, rfl, by simp, fun k _ hk => Below.heap_setCell _ _ _ _ fun e => hk (by rw [e])⟩ fun y hy => by injection hy with hy; omega
theorem Gb.put {B g : Nat} {a b : World} (h : Gb B g a b) (p : Addr) (hp : B ≤ p.block) (u : Value) : Gb B g a (b.setCell p u) := h.trans (Gb.of_below ((Below.refl _ _).setCell hp u))
/-- A drawn number. -/
def DrawnD (w : World) (B g a : Nat) (e : Ending) (w' : World) : Prop := ∃ t p : Int, e = .returned (.agg #[.int .i64 t, .int .i64 p]) ∧ -1000000 ≤ t ∧ t ≤ 1000000 ∧ Cur w' B g a ∧ Gb w.heap.size g w w'
set_option maxHeartbeats 1600000 in
theorem dyadic_any (w : World) (B g a : Nat) (h : Cur w B g a) (ha : a ≤ 100000000) :
    Calls Tryd.prog 142 #[.pointer (some ⟨g, 0, none⟩)] w (DrawnD w B g (a + 10)) := by
  have hlt0 := h.lt
  go_enter Tryd.func142, Tryd.ntmps142
  go_wp2_with fail
  have hR := Blk.new w 44 #[.int .i64 0, .int .i64 0]
  have hb0 := bel1 w (.cells #[.int .i64 0, .int .i64 0] 44)
  have hc0 := h.below hb0
  have hzW : w.heap.size < (w.alloc (.cells #[.int .i64 0, .int .i64 0] 44)).heap.size := by simp
  generalize w.alloc (.cells #[.int .i64 0, .int .i64 0] 44) = W at *
  ((with_reducible refine (pickI _ _ _ _ _ hc0 (by omega) (by decide) (by decide)).mono ?_); rintro e w1 ⟨x, ⟨hx0, hx1⟩, rfl, hc1, hg1⟩)
  have hR1 := hR.gb hg1 hzW (by omega)
  have hgA : Gb w.heap.size g w w1 := (Gb.of_below hb0).trans (hg1.mono (by omega))
  have hl1 := hc1.lt
  have hz1 := hg1.size
  clear hR hb0 hc0 hg1 h
  have hK : Blk (w1.alloc (.cells #[.int .i64 0, .int .i64 0, .int .i64 1, .int .i64 2, .int .i64 3, .int .i64 5] 3)) w1.heap.size 3 (ints [0, 0, 1, 2, 3, 5]).toArray := Blk.new _ _ _
  have hal : Calls Tryd.prog 138 #[.pointer (some ⟨g, 0, none⟩), .slice (some ⟨w1.heap.size, 0, none⟩) 6 6] _ _ := among_any _ B g _ (some ⟨w1.heap.size, 0, none⟩) 6 [0, 0, 1, 2, 3, 5] (hc1.below (bel1 _ _)) (by omega) (rd_ints [0, 0, 1, 2, 3, 5] hK (by decide)) (fun b hb => by injection hb with hb; subst hb; show g + 1 ≤ w1.heap.size; omega) (by decide) (by decide)
  have HAL := Lib.hid hal
  have hR2 := hR1.alloc (.cells #[.int .i64 0, .int .i64 0, .int .i64 1, .int .i64 2, .int .i64 3, .int .i64 5] 3)
  have hgB : Gb w.heap.size g w (w1.alloc (.cells #[.int .i64 0, .int .i64 0, .int .i64 1, .int .i64 2, .int .i64 3, .int .i64 5] 3)) := hgA.trans (Gb.of_below ((bel1 _ _).mono (by omega)))
  have hlt2 := hR2.lt
  clear hal hK hR1 hgA hc1
  go_wp2_with fail
  generalize w1.alloc (.cells #[.int .i64 0, .int .i64 0, .int .i64 1, .int .i64 2, .int .i64 3, .int .i64 5] 3) = V at *
  ((with_reducible refine (HAL.out).mono ?_); rintro e w2 ⟨m, ⟨i, hi, hmi⟩, rfl, hc2, hg2⟩)
  have hm : 0 ≤ m ∧ m ≤ 5 := by
    rw [hmi]
    have hi2 : i < 6 := hi
    obtain rfl | rfl | rfl | rfl | rfl | rfl : i = 0 ∨ i = 1 ∨ i = 2 ∨ i = 3 ∨ i = 4 ∨ i = 5 := by omega
    all_goals decide
  clear hmi hi
  obtain ⟨m, rfl⟩ := Int.eq_ofNat_of_zero_le hm.1
  have hR3 := hR2.gb hg2 hlt2 (by omega)
  have hgC := hgB.trans (hg2.mono (by have := hgB.size; omega))
  have hlm := hR3.lt
  have hl2 := hc2.lt
  clear hR2 hgB hg2
  have hab := nrm_abs m (x - 20) 1000000 (by omega) (by omega)
  have hmk := l2Make_any (x - 20) m w2 (by omega) (by unfold Fits; omega)
  unfold dyP at hmk
  generalize (nrm m (x - 20)).1 = t at *
  generalize ((nrm m (x - 20)).2 : Int) = p at *
  have HMK := Lib.hid hmk
  clear hmk
  go_wp2_with fail
  ((with_reducible refine HMK.out.mono ?_); rintro e w3 ⟨rfl, hb3⟩)
  have hR4 := hR3.below hb3 hlm
  have hgD := hgC.trans (Gb.of_below (hb3.mono (by omega)))
  have hc3 := hc2.below hb3
  have r0 : w3.cell? ⟨w.heap.size, 0, none⟩ = some (.int .i64 (0)) := Blk.cell hR4 0
  have r1 : w3.cell? ⟨w.heap.size, 1, none⟩ = some (.int .i64 (0)) := Blk.cell hR4 1
  have rf0 : w3.frozen? ⟨w.heap.size, 0, none⟩ = false := Blk.frozen hR4 0
  have rf1 : w3.frozen? ⟨w.heap.size, 1, none⟩ = false := Blk.frozen hR4 1
  have HC3 := Lib.hid hc3; have HGD := Lib.hid hgD
  clear hR3 hc2 hgC hb3 hc3 hgD
  go_wp2
  exact bodyPost_ret (v := .agg #[.int .i64 t, .int .i64 p]) (by simp [results, Tryd.results142, go_sem, r0, r1]) rfl ⟨t, p, rfl, hab.1, hab.2, ((HC3.out.put ⟨w.heap.size, 0, none⟩ hlt0 _).put ⟨w.heap.size, 1, none⟩ hlt0 _).more (by omega), (HGD.out.put ⟨w.heap.size, 0, none⟩ (Nat.le_refl _) _).put ⟨w.heap.size, 1, none⟩ (Nat.le_refl _) _⟩

set_option maxRecDepth 100000 in
set_option maxHeartbeats 3200000 in
theorem anyDyadic_any (w : World) (B g a : Nat) (h : Cur w B g a) (ha : a ≤ 10000000) :
    Calls Tryd.prog 85 #[.pointer (some ⟨g, 0, none⟩)] w fun e w' => ∃ t p : Int, e = .returned (.agg #[.int .i64 t, .int .i64 p]) ∧ Cur w' B g (a + 40) ∧ Gb w.heap.size g w w' := by
  have hlt0 := h.lt
  go_enter Tryd.func85, Tryd.ntmps85
  go_wp2_with fail
  have hR := Blk.new w 44 #[.int .i64 0, .int .i64 0]
  have hb0 := bel1 w (.cells #[.int .i64 0, .int .i64 0] 44)
  have hc0 := h.below hb0
  have hzW : w.heap.size < (w.alloc (.cells #[.int .i64 0, .int .i64 0] 44)).heap.size := by simp
  generalize w.alloc (.cells #[.int .i64 0, .int .i64 0] 44) = W at *
  ((with_reducible refine (dyadic_any _ _ _ _ hc0 (by omega)).mono ?_); rintro e w1 ⟨t, p, rfl, ht1, ht2, hc1, hg1⟩)
  have hR1 := hR.gb hg1 hzW (by omega)
  have hgA : Gb w.heap.size g w w1 := (Gb.of_below hb0).trans (hg1.mono (by omega))
  have hl1 := hc1.lt
  have hlR := hR1.lt
  clear hR hb0 hc0 hg1 h
  go_wp2_with fail
  have hD := Blk.new w1 44 #[.int .i64 t, .int .i64 p]
  have hb1 := bel1 w1 (.cells #[.int .i64 t, .int .i64 p] 44)
  have hcV := hc1.below hb1
  have hRV := hR1.alloc (.cells #[.int .i64 t, .int .i64 p] 44)
  have hgV : Gb w.heap.size g w (w1.alloc (.cells #[.int .i64 t, .int .i64 p] 44)) := hgA.trans (Gb.of_below (hb1.mono (by omega)))
  have hzV : w1.heap.size < (w1.alloc (.cells #[.int .i64 t, .int .i64 p] 44)).heap.size := by simp
  obtain ⟨D, hDe⟩ : ∃ D, D = w1.heap.size := ⟨_, rfl⟩
  rw [← hDe] at hD hzV hl1 hlR ⊢
  generalize w1.alloc (.cells #[.int .i64 t, .int .i64 p] 44) = V at *
  clear hc1 hR1 hgA hb1 hDe
  ((with_reducible refine (pickI _ _ _ _ _ hcV (by omega) (by decide) (by decide)).mono ?_); rintro e w2 ⟨x, ⟨hx0, hx1⟩, rfl, hc2, hg2⟩)
  have hD2 := hD.gb hg2 hzV (by omega)
  have hR2 := hRV.gb hg2 (by omega) (by omega)
  have hgB := hgV.trans (hg2.mono (by omega))
  have hl2 := hc2.lt
  have hz2 := hg2.size
  clear hD hRV hgV hcV hg2
  by_cases x0 : x = 0
  · subst x0
    have hK : Blk (w2.alloc (.cells #[.int .i64 1000000, .int .i64 (-1000000), .int .i64 1000001, .int .i64 (-1000001), .int .i64 999999] 3)) w2.heap.size 3 (ints [1000000, -1000000, 1000001, -1000001, 999999]).toArray := Blk.new _ _ _
    have hal : Calls Tryd.prog 138 #[.pointer (some ⟨g, 0, none⟩), .slice (some ⟨w2.heap.size, 0, none⟩) 5 5] _ _ := among_any _ B g _ (some ⟨w2.heap.size, 0, none⟩) 5 [1000000, -1000000, 1000001, -1000001, 999999] (hc2.below (bel1 _ _)) (by omega) (rd_ints [1000000, -1000000, 1000001, -1000001, 999999] hK (by decide)) (fun b hb => by injection hb with hb; subst hb; show g + 1 ≤ w2.heap.size; omega) (by decide) (by decide)
    have HAL := Lib.hid hal
    have hD3 := hD2.alloc (.cells #[.int .i64 1000000, .int .i64 (-1000000), .int .i64 1000001, .int .i64 (-1000001), .int .i64 999999] 3)
    have hR3 := hR2.alloc (.cells #[.int .i64 1000000, .int .i64 (-1000000), .int .i64 1000001, .int .i64 (-1000001), .int .i64 999999] 3)
    have hg3 : Gb w.heap.size g w (w2.alloc (.cells #[.int .i64 1000000, .int .i64 (-1000000), .int .i64 1000001, .int .i64 (-1000001), .int .i64 999999] 3)) := hgB.trans (Gb.of_below ((bel1 _ _).mono (by omega)))
    have hz3 : w2.heap.size < (w2.alloc (.cells #[.int .i64 1000000, .int .i64 (-1000000), .int .i64 1000001, .int .i64 (-1000001), .int .i64 999999] 3)).heap.size := by simp
    clear hal hK hD2 hR2 hgB hc2
    go_wp2_with fail
    generalize w2.alloc (.cells #[.int .i64 1000000, .int .i64 (-1000000), .int .i64 1000001, .int .i64 (-1000001), .int .i64 999999] 3) = U at *
    ((with_reducible refine (HAL.out).mono ?_); rintro e w3 ⟨m, -, rfl, hc3, hg4⟩)
    have hDa := hD3.gb hg4 (by omega) (by omega)
    have hRa := hR3.gb hg4 (by omega) (by omega)
    have hgC := hg3.trans (hg4.mono (by omega))
    have hDb := hDa.set 0 (.int .i64 m)
    have hRb := hRa.far (p := ⟨D, 0, none⟩) (by dsimp only; omega) (.int .i64 m)
    have hcb := hc3.put ⟨D, 0, none⟩ (by dsimp only; omega) (.int .i64 m)
    have hgb := hgC.put ⟨D, 0, none⟩ (by dsimp only; omega) (.int .i64 m)
    have HCb := Lib.hid hcb; have HGb := Lib.hid hgb
    clear hcb hgb hc3 hg4 hgC hD3 hR3 hg3
    have d0a : (w3).cell? ⟨D, 0, none⟩ = some (.int .i64 t) := Blk.cell hDa 0
    have d1a : (w3).cell? ⟨D, 1, none⟩ = some (.int .i64 p) := Blk.cell hDa 1
    have e0a := Blk.frozen hDa 0
    have e1a := Blk.frozen hDa 1
    have r0a : (w3).cell? ⟨w.heap.size, 0, none⟩ = some (.int .i64 0) := Blk.cell hRa 0
    have r1a : (w3).cell? ⟨w.heap.size, 1, none⟩ = some (.int .i64 0) := Blk.cell hRa 1
    have q0a := Blk.frozen hRa 0
    have q1a := Blk.frozen hRa 1
    have d0b : (w3.setCell ⟨D, 0, none⟩ (.int .i64 m)).cell? ⟨D, 0, none⟩ = some (.int .i64 m) := Blk.cell hDb 0
    have d1b : (w3.setCell ⟨D, 0, none⟩ (.int .i64 m)).cell? ⟨D, 1, none⟩ = some (.int .i64 p) := Blk.cell hDb 1
    have e0b := Blk.frozen hDb 0
    have e1b := Blk.frozen hDb 1
    have r0b : (w3.setCell ⟨D, 0, none⟩ (.int .i64 m)).cell? ⟨w.heap.size, 0, none⟩ = some (.int .i64 0) := Blk.cell hRb 0
    have r1b : (w3.setCell ⟨D, 0, none⟩ (.int .i64 m)).cell? ⟨w.heap.size, 1, none⟩ = some (.int .i64 0) := Blk.cell hRb 1
    have q0b := Blk.frozen hRb 0
    have q1b := Blk.frozen hRb 1
    go_wp2
    exact bodyPost_ret (v := .agg #[.int .i64 m, .int .i64 p]) (by simp [results, Tryd.results85, go_sem, r0b, r1b]) rfl ⟨_, _, rfl, ((HCb.out.put ⟨w.heap.size, 0, none⟩ hlt0 _).put ⟨w.heap.size, 1, none⟩ hlt0 _).more (by omega), (HGb.out.put ⟨w.heap.size, 0, none⟩ (Nat.le_refl _) _).put ⟨w.heap.size, 1, none⟩ (Nat.le_refl _) _⟩
  · by_cases x1 : x = 1
    · subst x1
      have hK : Blk (w2.alloc (.cells #[.int .i64 (-1), .int .i64 16, .int .i64 17] 3)) w2.heap.size 3 (ints [-1, 16, 17]).toArray := Blk.new _ _ _
      have hal : Calls Tryd.prog 138 #[.pointer (some ⟨g, 0, none⟩), .slice (some ⟨w2.heap.size, 0, none⟩) 3 3] _ _ := among_any _ B g _ (some ⟨w2.heap.size, 0, none⟩) 3 [-1, 16, 17] (hc2.below (bel1 _ _)) (by omega) (rd_ints [-1, 16, 17] hK (by decide)) (fun b hb => by injection hb with hb; subst hb; show g + 1 ≤ w2.heap.size; omega) (by decide) (by decide)
      have HAL := Lib.hid hal
      have hD3 := hD2.alloc (.cells #[.int .i64 (-1), .int .i64 16, .int .i64 17] 3)
      have hR3 := hR2.alloc (.cells #[.int .i64 (-1), .int .i64 16, .int .i64 17] 3)
      have hg3 : Gb w.heap.size g w (w2.alloc (.cells #[.int .i64 (-1), .int .i64 16, .int .i64 17] 3)) := hgB.trans (Gb.of_below ((bel1 _ _).mono (by omega)))
      have hz3 : w2.heap.size < (w2.alloc (.cells #[.int .i64 (-1), .int .i64 16, .int .i64 17] 3)).heap.size := by simp
      clear hal hK hD2 hR2 hgB hc2
      go_wp2_with fail
      generalize w2.alloc (.cells #[.int .i64 (-1), .int .i64 16, .int .i64 17] 3) = U at *
      ((with_reducible refine (HAL.out).mono ?_); rintro e w3 ⟨m, -, rfl, hc3, hg4⟩)
      have hDa := hD3.gb hg4 (by omega) (by omega)
      have hRa := hR3.gb hg4 (by omega) (by omega)
      have hgC := hg3.trans (hg4.mono (by omega))
      have hDb := hDa.set 1 (.int .i64 m)
      have hRb := hRa.far (p := ⟨D, 1, none⟩) (by dsimp only; omega) (.int .i64 m)
      have hcb := hc3.put ⟨D, 1, none⟩ (by dsimp only; omega) (.int .i64 m)
      have hgb := hgC.put ⟨D, 1, none⟩ (by dsimp only; omega) (.int .i64 m)
      have HCb := Lib.hid hcb; have HGb := Lib.hid hgb
      clear hcb hgb hc3 hg4 hgC hD3 hR3 hg3
      have d0a : (w3).cell? ⟨D, 0, none⟩ = some (.int .i64 t) := Blk.cell hDa 0
      have d1a : (w3).cell? ⟨D, 1, none⟩ = some (.int .i64 p) := Blk.cell hDa 1
      have e0a := Blk.frozen hDa 0
      have e1a := Blk.frozen hDa 1
      have r0a : (w3).cell? ⟨w.heap.size, 0, none⟩ = some (.int .i64 0) := Blk.cell hRa 0
      have r1a : (w3).cell? ⟨w.heap.size, 1, none⟩ = some (.int .i64 0) := Blk.cell hRa 1
      have q0a := Blk.frozen hRa 0
      have q1a := Blk.frozen hRa 1
      have d0b : (w3.setCell ⟨D, 1, none⟩ (.int .i64 m)).cell? ⟨D, 0, none⟩ = some (.int .i64 t) := Blk.cell hDb 0
      have d1b : (w3.setCell ⟨D, 1, none⟩ (.int .i64 m)).cell? ⟨D, 1, none⟩ = some (.int .i64 m) := Blk.cell hDb 1
      have e0b := Blk.frozen hDb 0
      have e1b := Blk.frozen hDb 1
      have r0b : (w3.setCell ⟨D, 1, none⟩ (.int .i64 m)).cell? ⟨w.heap.size, 0, none⟩ = some (.int .i64 0) := Blk.cell hRb 0
      have r1b : (w3.setCell ⟨D, 1, none⟩ (.int .i64 m)).cell? ⟨w.heap.size, 1, none⟩ = some (.int .i64 0) := Blk.cell hRb 1
      have q0b := Blk.frozen hRb 0
      have q1b := Blk.frozen hRb 1
      go_wp2
      exact bodyPost_ret (v := .agg #[.int .i64 t, .int .i64 m]) (by simp [results, Tryd.results85, go_sem, r0b, r1b]) rfl ⟨_, _, rfl, ((HCb.out.put ⟨w.heap.size, 0, none⟩ hlt0 _).put ⟨w.heap.size, 1, none⟩ hlt0 _).more (by omega), (HGb.out.put ⟨w.heap.size, 0, none⟩ (Nat.le_refl _) _).put ⟨w.heap.size, 1, none⟩ (Nat.le_refl _) _⟩
    · by_cases x2 : x = 2
      · subst x2
        go_wp2_with fail
        ((with_reducible refine (pickI _ _ _ _ _ hc2 (by omega) (by decide) (by decide)).mono ?_); rintro e w3 ⟨y, ⟨hy0, hy1⟩, rfl, hc3, hg3⟩)
        have hz3 := hg3.size
        have hD3 := hD2.gb hg3 (by omega) (by omega)
        have hR3 := hR2.gb hg3 (by omega) (by omega)
        have hgC := hgB.trans (hg3.mono (by omega))
        clear hD2 hR2 hgB hc2 hg3
        go_wp2_with fail
        ((with_reducible refine (pickI _ _ _ _ _ hc3 (by omega) (by decide) (by decide)).mono ?_); rintro e w4 ⟨z, ⟨hz0, hz1⟩, rfl, hc4, hg4⟩)
        have hz4 := hg4.size
        have hDa := hD3.gb hg4 (by omega) (by omega)
        have hRa := hR3.gb hg4 (by omega) (by omega)
        have hgD := hgC.trans (hg4.mono (by omega))
        have hDb := (hDa.set 0 (.int .i64 (2 * y))).set 1 (.int .i64 (1 + z))
        have hRb := (hRa.far (p := ⟨D, 0, none⟩) (by dsimp only; omega) (.int .i64 (2 * y))).far (p := ⟨D, 1, none⟩) (by dsimp only; omega) (.int .i64 (1 + z))
        have hcb := (hc4.put ⟨D, 0, none⟩ (by dsimp only; omega) (.int .i64 (2 * y))).put ⟨D, 1, none⟩ (by dsimp only; omega) (.int .i64 (1 + z))
        have hgb := (hgD.put ⟨D, 0, none⟩ (by dsimp only; omega) (.int .i64 (2 * y))).put ⟨D, 1, none⟩ (by dsimp only; omega) (.int .i64 (1 + z))
        have HCb := Lib.hid hcb; have HGb := Lib.hid hgb
        clear hcb hgb hc3 hc4 hg4 hgC hgD hD3 hR3
        have d0a : (w4).cell? ⟨D, 0, none⟩ = some (.int .i64 t) := Blk.cell hDa 0
        have d1a : (w4).cell? ⟨D, 1, none⟩ = some (.int .i64 p) := Blk.cell hDa 1
        have e0a := Blk.frozen hDa 0
        have e1a := Blk.frozen hDa 1
        have r0a : (w4).cell? ⟨w.heap.size, 0, none⟩ = some (.int .i64 0) := Blk.cell hRa 0
        have r1a : (w4).cell? ⟨w.heap.size, 1, none⟩ = some (.int .i64 0) := Blk.cell hRa 1
        have q0a := Blk.frozen hRa 0
        have q1a := Blk.frozen hRa 1
        have d0b : ((w4.setCell ⟨D, 0, none⟩ (.int .i64 (2 * y))).setCell ⟨D, 1, none⟩ (.int .i64 (1 + z))).cell? ⟨D, 0, none⟩ = some (.int .i64 (2 * y)) := Blk.cell hDb 0
        have d1b : ((w4.setCell ⟨D, 0, none⟩ (.int .i64 (2 * y))).setCell ⟨D, 1, none⟩ (.int .i64 (1 + z))).cell? ⟨D, 1, none⟩ = some (.int .i64 (1 + z)) := Blk.cell hDb 1
        have e0b := Blk.frozen hDb 0
        have e1b := Blk.frozen hDb 1
        have r0b : ((w4.setCell ⟨D, 0, none⟩ (.int .i64 (2 * y))).setCell ⟨D, 1, none⟩ (.int .i64 (1 + z))).cell? ⟨w.heap.size, 0, none⟩ = some (.int .i64 0) := Blk.cell hRb 0
        have r1b : ((w4.setCell ⟨D, 0, none⟩ (.int .i64 (2 * y))).setCell ⟨D, 1, none⟩ (.int .i64 (1 + z))).cell? ⟨w.heap.size, 1, none⟩ = some (.int .i64 0) := Blk.cell hRb 1
        have q0b := Blk.frozen hRb 0
        have q1b := Blk.frozen hRb 1
        go_wp2
        exact bodyPost_ret (v := .agg #[.int .i64 (2 * y), .int .i64 (1 + z)]) (by simp [results, Tryd.results85, go_sem, r0b, r1b]) rfl ⟨_, _, rfl, ((HCb.out.put ⟨w.heap.size, 0, none⟩ hlt0 _).put ⟨w.heap.size, 1, none⟩ hlt0 _).more (by omega), (HGb.out.put ⟨w.heap.size, 0, none⟩ (Nat.le_refl _) _).put ⟨w.heap.size, 1, none⟩ (Nat.le_refl _) _⟩
      · by_cases x3 : x = 3
        · subst x3
          go_wp2_with fail
          ((with_reducible refine (pickI _ _ _ _ _ hc2 (by omega) (by decide) (by decide)).mono ?_); rintro e w3 ⟨y, ⟨hy0, hy1⟩, rfl, hc3, hg3⟩)
          have hz3 := hg3.size
          have hl3 := hc3.lt
          have hD3 := hD2.gb hg3 (by omega) (by omega)
          have hR3 := hR2.gb hg3 (by omega) (by omega)
          have hgC := hgB.trans (hg3.mono (by omega))
          clear hD2 hR2 hgB hc2 hg3
          have hK : Blk (w3.alloc (.cells #[.int .i64 14, .int .i64 15, .int .i64 16] 3)) w3.heap.size 3 (ints [14, 15, 16]).toArray := Blk.new _ _ _
          have hal : Calls Tryd.prog 138 #[.pointer (some ⟨g, 0, none⟩), .slice (some ⟨w3.heap.size, 0, none⟩) 3 3] _ _ := among_any _ B g _ (some ⟨w3.heap.size, 0, none⟩) 3 [14, 15, 16] (hc3.below (bel1 _ _)) (by omega) (rd_ints [14, 15, 16] hK (by decide)) (fun b hb => by injection hb with hb; subst hb; show g + 1 ≤ w3.heap.size; omega) (by decide) (by decide)
          have HAL := Lib.hid hal
          have hD4 := hD3.alloc (.cells #[.int .i64 14, .int .i64 15, .int .i64 16] 3)
          have hR4 := hR3.alloc (.cells #[.int .i64 14, .int .i64 15, .int .i64 16] 3)
          have hg4 : Gb w.heap.size g w (w3.alloc (.cells #[.int .i64 14, .int .i64 15, .int .i64 16] 3)) := hgC.trans (Gb.of_below ((bel1 _ _).mono (by omega)))
          have hz4 : w3.heap.size < (w3.alloc (.cells #[.int .i64 14, .int .i64 15, .int .i64 16] 3)).heap.size := by simp
          clear hal hK hD3 hR3 hgC hc3
          go_wp2_with fail
          generalize w3.alloc (.cells #[.int .i64 14, .int .i64 15, .int .i64 16] 3) = U at *
          ((with_reducible refine (HAL.out).mono ?_); rintro e w4 ⟨m, ⟨i, hi, hmi⟩, rfl, hc4, hg5⟩)
          have hm : 0 ≤ m ∧ m ≤ 16 := by
            rw [hmi]
            have hi2 : i < 3 := hi
            obtain rfl | rfl | rfl : i = 0 ∨ i = 1 ∨ i = 2 := by omega
            all_goals decide
          clear hmi hi
          obtain ⟨m, rfl⟩ := Int.eq_ofNat_of_zero_le hm.1
          have hz5 := hg5.size
          have hD5 := hD4.gb hg5 (by omega) (by omega)
          have hR5 := hR4.gb hg5 (by omega) (by omega)
          have hgC := hg4.trans (hg5.mono (by omega))
          have hmk := l2Make_any (y * 2 + 1) m w4 (by omega) (by unfold Fits; omega)
          unfold dyP at hmk
          generalize (nrm m (y * 2 + 1)).1 = t2 at *
          generalize ((nrm m (y * 2 + 1)).2 : Int) = p2 at *
          have HMK := Lib.hid hmk
          clear hmk hD4 hR4 hg4 hg5
          go_wp2_with fail
          ((with_reducible refine HMK.out.mono ?_); rintro e w5 ⟨rfl, hb5⟩)
          have hDa := hD5.below hb5 (by omega)
          have hRa := hR5.below hb5 (by omega)
          have hc5 := hc4.below hb5
          have hgD := hgC.trans (Gb.of_below (hb5.mono (by omega)))
          have hDb := (hDa.set 0 (.int .i64 t2)).set 1 (.int .i64 p2)
          have hRb := (hRa.far (p := ⟨D, 0, none⟩) (by dsimp only; omega) (.int .i64 t2)).far (p := ⟨D, 1, none⟩) (by dsimp only; omega) (.int .i64 p2)
          have hcb := (hc5.put ⟨D, 0, none⟩ (by dsimp only; omega) (.int .i64 t2)).put ⟨D, 1, none⟩ (by dsimp only; omega) (.int .i64 p2)
          have hgb := (hgD.put ⟨D, 0, none⟩ (by dsimp only; omega) (.int .i64 t2)).put ⟨D, 1, none⟩ (by dsimp only; omega) (.int .i64 p2)
          have HCb := Lib.hid hcb; have HGb := Lib.hid hgb
          clear hcb hgb hc4 hc5 hgC hgD hD5 hR5 hb5
          have d0a : (w5).cell? ⟨D, 0, none⟩ = some (.int .i64 t) := Blk.cell hDa 0
          have d1a : (w5).cell? ⟨D, 1, none⟩ = some (.int .i64 p) := Blk.cell hDa 1
          have e0a := Blk.frozen hDa 0
          have e1a := Blk.frozen hDa 1
          have r0a : (w5).cell? ⟨w.heap.size, 0, none⟩ = some (.int .i64 0) := Blk.cell hRa 0
          have r1a : (w5).cell? ⟨w.heap.size, 1, none⟩ = some (.int .i64 0) := Blk.cell hRa 1
          have q0a := Blk.frozen hRa 0
          have q1a := Blk.frozen hRa 1
          have d0b : ((w5.setCell ⟨D, 0, none⟩ (.int .i64 t2)).setCell ⟨D, 1, none⟩ (.int .i64 p2)).cell? ⟨D, 0, none⟩ = some (.int .i64 t2) := Blk.cell hDb 0
          have d1b : ((w5.setCell ⟨D, 0, none⟩ (.int .i64 t2)).setCell ⟨D, 1, none⟩ (.int .i64 p2)).cell? ⟨D, 1, none⟩ = some (.int .i64 p2) := Blk.cell hDb 1
          have e0b := Blk.frozen hDb 0
          have e1b := Blk.frozen hDb 1
          have r0b : ((w5.setCell ⟨D, 0, none⟩ (.int .i64 t2)).setCell ⟨D, 1, none⟩ (.int .i64 p2)).cell? ⟨w.heap.size, 0, none⟩ = some (.int .i64 0) := Blk.cell hRb 0
          have r1b : ((w5.setCell ⟨D, 0, none⟩ (.int .i64 t2)).setCell ⟨D, 1, none⟩ (.int .i64 p2)).cell? ⟨w.heap.size, 1, none⟩ = some (.int .i64 0) := Blk.cell hRb 1
          have q0b := Blk.frozen hRb 0
          have q1b := Blk.frozen hRb 1
          go_wp2
          exact bodyPost_ret (v := .agg #[.int .i64 t2, .int .i64 p2]) (by simp [results, Tryd.results85, go_sem, r0b, r1b]) rfl ⟨_, _, rfl, ((HCb.out.put ⟨w.heap.size, 0, none⟩ hlt0 _).put ⟨w.heap.size, 1, none⟩ hlt0 _).more (by omega), (HGb.out.put ⟨w.heap.size, 0, none⟩ (Nat.le_refl _) _).put ⟨w.heap.size, 1, none⟩ (Nat.le_refl _) _⟩
        · have hDb := hD2
          have hRb := hR2
          have HCb := Lib.hid hc2; have HGb := Lib.hid hgB
          clear hc2 hgB
          have d0b : (w2).cell? ⟨D, 0, none⟩ = some (.int .i64 t) := Blk.cell hDb 0
          have d1b : (w2).cell? ⟨D, 1, none⟩ = some (.int .i64 p) := Blk.cell hDb 1
          have e0b := Blk.frozen hDb 0
          have e1b := Blk.frozen hDb 1
          have r0b : (w2).cell? ⟨w.heap.size, 0, none⟩ = some (.int .i64 0) := Blk.cell hRb 0
          have r1b : (w2).cell? ⟨w.heap.size, 1, none⟩ = some (.int .i64 0) := Blk.cell hRb 1
          have q0b := Blk.frozen hRb 0
          have q1b := Blk.frozen hRb 1
          go_wp2
          exact bodyPost_ret (v := .agg #[.int .i64 t, .int .i64 p]) (by simp [results, Tryd.results85, go_sem, r0b, r1b]) rfl ⟨_, _, rfl, ((HCb.out.put ⟨w.heap.size, 0, none⟩ hlt0 _).put ⟨w.heap.size, 1, none⟩ hlt0 _).more (by omega), (HGb.out.put ⟨w.heap.size, 0, none⟩ (Nat.le_refl _) _).put ⟨w.heap.size, 1, none⟩ (Nat.le_refl _) _⟩
end Go.Proofs.YtadljglcbieifaaDoor
