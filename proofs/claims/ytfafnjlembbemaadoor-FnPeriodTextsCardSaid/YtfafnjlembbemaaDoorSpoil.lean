/- The draws of a period's text: spoilt, DrawReadPeriod, DrawPeriodText, by contracts. Conditions: none. -/
import Derived.Test.YtfafnjlembbemaaDoorDrawPer
import Derived.Test.YtfafnjlembbemaaDoorPText
import Derived.Test.YtfafnjlembbemaaDoorCut
import Derived.Test.YtfafnjlembbemaaDoorBytes
namespace Go.Proofs.YtfafnjlembbemaaDoor
open Go.RowKit
set_option linter.unusedVariables false

def DrawnTx (w : World) (B g a m : Nat) (e : Ending) (w' : World) : Prop := ∃ s : ByteArray, e = .returned (.string s) ∧ s.size ≤ m ∧ Cur w' B g a ∧ Gb w.heap.size g w w'
theorem size_extract (s : ByteArray) (i j : Nat) : (s.extract i j).size ≤ s.size := by
  rw [← data_len, data_slice, ← data_len s, List.length_take, List.length_drop]; omega
theorem add_fact (a b : ByteArray) (ha : a.size ≤ 100) (hb : b.size ≤ 100) : ∃ c : ByteArray, c.size ≤ a.size + b.size ∧ ∀ W, (Op.stringOp .add a b).run Tryd.prog W = .ok (.string c) W :=
  ⟨a ++ b, by rw [ByteArray.size_append]; exact Nat.le_refl _, fun W => run_string_add_sum (P := Tryd.prog) (w := W) a b (by omega)⟩

set_option maxRecDepth 100000 in
set_option maxHeartbeats 1600000 in
theorem spoilt_any (t : ByteArray) (w : World) (B g a : Nat) (h : Cur w B g a) (ha : a ≤ 100000000) (ht : t.size ≤ 30) :
    Calls Tryd.prog 39 #[.pointer (some ⟨g, 0, none⟩), .string t, .string ⟨#[43, 48, 49, 57, 45]⟩] w (DrawnTx w B g (a + 6) 70) := by
  have hlt0 := h.lt
  by_cases h0 : t = ByteArray.empty
  · have hc := h.more (show a ≤ a + 6 by omega)
    subst h0
    clear h
    go_enter Tryd.func39, Tryd.ntmps39
    go_wp2
    go_ret
    exact ⟨_, rfl, Nat.le_trans (size_extract _ _ _) (by decide), hc, Gb.refl _ _ _⟩
  · have hsz : 1 ≤ t.size := by
      rcases Nat.eq_zero_or_pos t.size with e | e
      · exact absurd (ByteArray.ext (Array.eq_empty_of_size_eq_zero e)) h0
      · exact e
    have sne : (t.toList == ByteArray.empty.toList) = false := by
      rw [beq_eq_false_iff_ne]
      intro e
      rw [Lib.toList_data, Lib.toList_data] at e
      exact h0 (ByteArray.ext (Array.toList_inj.1 e))
    have sne2 : (t.toList == []) = false := by
      rw [beq_eq_false_iff_ne]
      intro e
      rw [Lib.toList_data] at e
      exact h0 (ByteArray.ext (Array.toList_inj.1 e))
    go_enter Tryd.func39, Tryd.ntmps39
    go_wp2_with fail
    ((with_reducible refine (pick_any _ _ _ _ t.size h (by omega) hsz (by omega)).mono ?_); rintro e w1 ⟨i, ⟨hi0, hi1⟩, rfl, hc1, hg1⟩)
    obtain ⟨i, rfl⟩ := Int.eq_ofNat_of_zero_le hi0
    have hit : i < t.size := by omega
    go_wp2_with fail
    ((with_reducible refine (pickI _ _ _ _ _ hc1 (by omega) (by decide) (by decide)).mono ?_); rintro e w2 ⟨j, ⟨hj0, hj1⟩, rfl, hc2, hg2⟩)
    obtain ⟨j, rfl⟩ := Int.eq_ofNat_of_zero_le hj0
    have hj5 : j < 5 := by omega
    go_wp2_with fail
    obtain ⟨c8, h8⟩ : ∃ c8, c8 = ((⟨#[43, 48, 49, 57, 45]⟩ : ByteArray).extract j 5).extract 0 1 := ⟨_, rfl⟩
    have hz8 : c8.size ≤ 5 := by rw [h8]; exact Nat.le_trans (size_extract _ _ _) (Nat.le_trans (size_extract _ _ _) (by decide))
    rw [← h8]
    clear h8
    ((with_reducible refine (pickI _ _ _ _ _ hc2 (by omega) (by decide) (by decide)).mono ?_); rintro e w3 ⟨x, ⟨hx0, hx1⟩, rfl, hc3, hg3⟩)
    have hC := hc3.more (show a + 2 + 2 + 2 ≤ a + 6 by omega)
    have hG : Gb w.heap.size g w w3 := (hg1.trans (hg2.mono hg1.size)).trans (hg3.mono (by have := hg1.size; have := hg2.size; omega))
    have HC := Lib.hid hC; have HG := Lib.hid hG
    have e1 := size_extract t 0 i
    have e2 := size_extract t i t.size
    have e3 := size_extract t (i + 1) t.size
    have hw : IntKind.i64.wrap ((i : Int) + 1) = (i : Int) + 1 := by rw [IntKind.wrap_i64]; omega
    have hi1' : (i : Int) + 1 ≤ (t.size : Int) := by omega
    obtain ⟨d1, hd1, a1⟩ := add_fact (t.extract 0 i) c8 (by omega) (by omega)
    obtain ⟨d2, hd2, a2⟩ := add_fact d1 (t.extract i t.size) (by omega) (by omega)
    obtain ⟨d3, hd3, a3⟩ := add_fact d1 (t.extract (i + 1) t.size) (by omega) (by omega)
    obtain ⟨d4, hd4, a4⟩ := add_fact (t.extract 0 i) (t.extract (i + 1) t.size) (by omega) (by omega)
    have hS : Hid (d2.size ≤ 70 ∧ d3.size ≤ 70 ∧ d4.size ≤ 70) := Lib.hid ⟨by omega, by omega, by omega⟩
    clear hc1 hc2 hc3 hg1 hg2 hg3 hC hG h e1 e2 e3 hd1 hd2 hd3 hd4 h0 sne sne2
    have hx3 : x = 0 ∨ x = 1 ∨ x = 2 := by omega
    rcases hx3 with rfl | rfl | rfl
    · go_wp2
      go_quiet (fail)
      go_wp2
      go_ret
      exact ⟨d2, rfl, by have := hS.out.1; omega, HC.out.below (bdrew (Below.refl _ _) _), HG.out.trans (Gb.of_below (bdrew (Below.refl _ _) _))⟩
    · go_wp2
      go_quiet (fail)
      go_wp2
      go_ret
      exact ⟨d3, rfl, by have := hS.out.2.1; omega, HC.out.below (bdrew (Below.refl _ _) _), HG.out.trans (Gb.of_below (bdrew (Below.refl _ _) _))⟩
    · go_wp2
      go_quiet (fail)
      go_wp2
      go_ret
      exact ⟨d4, rfl, by have := hS.out.2.2; omega, HC.out.below (bdrew (Below.refl _ _) _), HG.out.trans (Gb.of_below (bdrew (Below.refl _ _) _))⟩

theorem pTextV_size (p l : Int) : (pTextV p l).1.size ≤ 21 := by
  unfold pTextV
  split
  · rename_i h
    simp [goodPerB] at h
    show (pText p.toNat l.toNat).size ≤ 21
    unfold pText
    rw [str_size, List.length_append, List.length_append, List.length_singleton]
    have h1 := decDigits_len p.toNat (by omega)
    have h2 := decDigits_len l.toNat (by omega)
    omega
  · show ByteArray.empty.size ≤ 21
    decide
def NewTx (w : World) (m : Nat) (e : Ending) (w' : World) : Prop := ∃ s : ByteArray, e = .returned (.string s) ∧ s.size ≤ m ∧ Below w.heap.size w w'
set_option maxRecDepth 100000 in
set_option maxHeartbeats 1600000 in
theorem drawRead_any (A : Option Addr) (c : Nat) (bs : List Int) (w : World) (h : RdY w A c bs) :
    Calls Tryd.prog 17 #[.slice A bs.length c] w (NewTx w 70) := by
  go_enter Tryd.func17, Tryd.ntmps17
  go_wp2_with fail
  have hc := Cur.new h
  have hbV := bel1 w (.cells #[.slice A bs.length c, .int .i64 0, .int .u64 0] 60)
  generalize w.alloc (.cells #[.slice A bs.length c, .int .i64 0, .int .u64 0] 60) = W at *
  have hzV := hbV.size
  ((with_reducible refine (drawPer_any _ _ _ _ hc (by omega)).mono ?_); rintro e w1 ⟨p, l, rfl, hg1, hc1⟩)
  have hz1 := hg1.size
  have hsz := pTextV_size p l
  have hT := fun W => pTextS_all p l W
  obtain ⟨s, ok, hsb⟩ : ∃ s ok, pTextV p l = (s, ok) := ⟨_, _, rfl⟩
  rw [hsb] at hT hsz
  have HT := Lib.hid hT
  clear hT hsb hc
  go_wp2_with fail
  ((with_reducible refine (HT.out _).mono ?_); rintro e w2 ⟨rfl, hb2⟩)
  have hz2 := hb2.size
  have hc2 := hc1.below hb2
  have hg2 : Gb w.heap.size w.heap.size W w2 := (hg1.mono hzV).trans (Gb.of_below (hb2.mono (by omega)))
  clear hc1 hb2 hg1
  go_wp2_with fail
  ((with_reducible refine (oneI _ _ _ _ _ hc2 (by omega) (by decide) (by decide)).mono ?_); rintro e w3 ⟨b, rfl, hc3, hg3⟩)
  have hG3 := hg2.trans (hg3.mono (by omega))
  have hz3 := hG3.size
  clear hc2 hg2 hg3
  cases b
  · have HB : Hid (Below w.heap.size w w3) := Lib.hid (hbV.trans (hG3.below (Nat.le_refl _)))
    clear hc3 hG3 hbV
    go_wp2
    go_ret
    exact ⟨s, rfl, by show s.size ≤ 70; have : s.size ≤ 21 := hsz; omega, HB.out⟩
  · have hs30 : s.size ≤ 30 := by have : s.size ≤ 21 := hsz; omega
    go_wp2_with fail
    ((with_reducible refine (spoilt_any s _ _ _ _ hc3 (by omega) hs30).mono ?_); rintro e w4 ⟨u, rfl, hu, hc4, hg4⟩)
    have HB : Hid (Below w.heap.size w w4) := Lib.hid (hbV.trans ((hG3.trans (hg4.mono (by omega))).below (Nat.le_refl _)))
    clear hc3 hG3 hbV hc4 hg4
    go_wp2
    go_ret
    exact ⟨u, rfl, hu, HB.out⟩
def NewP (w : World) (e : Ending) (w' : World) : Prop := ∃ p l : Int, e = .returned (.agg #[.int .i64 p, .int .i64 l]) ∧ Below w.heap.size w w'
set_option maxRecDepth 100000 in
set_option maxHeartbeats 1600000 in
theorem drawGood_any (A : Option Addr) (c : Nat) (bs : List Int) (w : World) (h : RdY w A c bs) :
    Calls Tryd.prog 34 #[.slice A bs.length c] w (NewP w) := by
  go_enter Tryd.func34, Tryd.ntmps34
  go_wp2_with fail
  have hR := Blk.new w 23 #[.int .i64 0, .int .i64 0]
  have hb0 := bel1 w (.cells #[.int .i64 0, .int .i64 0] 23)
  have h1 := h.below hb0
  have hz0 : (w.alloc (.cells #[.int .i64 0, .int .i64 0] 23)).heap.size = w.heap.size + 1 := by simp
  generalize w.alloc (.cells #[.int .i64 0, .int .i64 0] 23) = V at *
  have hc := Cur.new h1
  have hbV := bel1 V (.cells #[.slice A bs.length c, .int .i64 0, .int .u64 0] 60)
  have hR1 := hR.alloc (.cells #[.slice A bs.length c, .int .i64 0, .int .u64 0] 60)
  generalize V.alloc (.cells #[.slice A bs.length c, .int .i64 0, .int .u64 0] 60) = W at *
  have hzV := hbV.size
  have hltW := hc.lt
  rw [hz0] at hc hltW
  ((with_reducible refine (drawPer_any _ _ _ _ hc (by omega)).mono ?_); rintro e w1 ⟨p, l, rfl, hg, hc1⟩)
  have hz1 := hg.size
  have hb1 : Below w.heap.size w w1 := (hb0.trans (hbV.mono (by omega))).trans ((hg.mono (B' := w.heap.size) (by omega)).below (by omega))
  have hR2 := hR1.gb hg (by omega) (by omega)
  have r0 : w1.cell? ⟨w.heap.size, 0, none⟩ = some (.int .i64 0) := hR2.cell 0
  have r1 : w1.cell? ⟨w.heap.size, 1, none⟩ = some (.int .i64 0) := hR2.cell 1
  have rf0 : w1.frozen? ⟨w.heap.size, 0, none⟩ = false := hR2.frozen 0
  have rf1 : w1.frozen? ⟨w.heap.size, 1, none⟩ = false := hR2.frozen 1
  have HB := Lib.hid hb1
  clear hg hc hR hR1 hR2 hb1 hz0
  go_wp2
  refine bodyPost_ret (v := .agg #[.int .i64 p, .int .i64 l]) (by simp [results, Tryd.results34, go_sem, r0, r1]) rfl ⟨p, l, rfl, ?_⟩
  exact (HB.out.setCell (by simp) _).setCell (by simp) _
set_option maxHeartbeats 800000 in
theorem drawText_any (A : Option Addr) (c : Nat) (bs : List Int) (w : World) (h : RdY w A c bs) :
    Calls Tryd.prog 14 #[.slice A bs.length c] w (NewP w) := by
  go_enter Tryd.func14, Tryd.ntmps14
  go_wp2_with fail
  have hR := Blk.new w 23 #[.int .i64 0, .int .i64 0]
  have hb0 := bel1 w (.cells #[.int .i64 0, .int .i64 0] 23)
  have h1 := h.below hb0
  generalize w.alloc (.cells #[.int .i64 0, .int .i64 0] 23) = V at *
  ((with_reducible refine (drawGood_any _ _ _ _ h1).mono ?_); rintro e w1 ⟨p, l, rfl, hb1⟩)
  have hR2 := hR.below hb1 hR.lt
  have HB := Lib.hid (gtr hb0 hb1)
  have r0 : w1.cell? ⟨w.heap.size, 0, none⟩ = some (.int .i64 0) := hR2.cell 0
  have r1 : w1.cell? ⟨w.heap.size, 1, none⟩ = some (.int .i64 0) := hR2.cell 1
  have rf0 : w1.frozen? ⟨w.heap.size, 0, none⟩ = false := hR2.frozen 0
  have rf1 : w1.frozen? ⟨w.heap.size, 1, none⟩ = false := hR2.frozen 1
  clear hR hR2 hb0 hb1
  go_wp2
  refine bodyPost_ret (v := .agg #[.int .i64 p, .int .i64 l]) (by simp [results, Tryd.results14, go_sem, r0, r1]) rfl ⟨p, l, rfl, ?_⟩
  exact (HB.out.setCell (by simp) _).setCell (by simp) _
end Go.Proofs.YtfafnjlembbemaaDoor
