/- Draws of texts: of, spoilt, strips. Conditions: none. -/
import Derived.Test.YtbhficohgdlojaaDoorBig
import Derived.Test.YtbhficohgdlojaaDoorBytes
namespace Go.Proofs.YtbhficohgdlojaaDoor
open Go.RowKit
set_option linter.unusedVariables false

/-- A drawn text of at most m bytes. -/
def DrawnT (w : World) (B g a m : Nat) (e : Ending) (w' : World) : Prop := ∃ s : ByteArray, e = .returned (.string s) ∧ s.size ≤ m ∧ Cur w' B g a ∧ Gb w.heap.size g w w'
theorem rd_strs {w : World} {L : Nat} {T : TypeId} (ss : List ByteArray) (h : Blk w L T (scells ss).toArray) (hm : ss.length ≤ 1000) : Rd w w.heap.size (some ⟨L, 0, none⟩) ss.length (scells ss) :=
  ⟨by rw [scells_len]; exact Nat.le_refl _, by unfold maxLen; omega, fun e => (nomatch e), fun j hj => ⟨L, 0, rfl, Blk.lt h, fun i u hi => by
    have := Blk.cell h i
    rw [List.getElem?_toArray, hi] at this
    rw [Nat.zero_add]; exact this⟩⟩

theorem rd_ints {w : World} {L : Nat} {T : TypeId} (xs : List Int) (h : Blk w L T (ints xs).toArray) (hm : xs.length ≤ 1000) : RdI w w.heap.size (some ⟨L, 0, none⟩) xs.length xs :=
  ⟨by rw [ints_len]; exact Nat.le_refl _, by unfold maxLen; omega, fun e => (nomatch e), fun j hj => ⟨L, 0, rfl, Blk.lt h, fun i u hi => by
    have := Blk.cell h i
    rw [List.getElem?_toArray, hi] at this
    rw [Nat.zero_add]; exact this⟩⟩
set_option maxHeartbeats 800000 in
theorem of_any (w : World) (B g a m : Nat) (A : Option Addr) (c : Nat) (ss : List ByteArray) (h : Cur w B g a) (ha : a ≤ 900000000) (hx : Rd w w.heap.size A c (scells ss)) (hlo : Lo (g + 1) A) (hl : 1 ≤ ss.length) (hl2 : ss.length ≤ 60000) (hm : ∀ s ∈ ss, s.size ≤ m) :
    Calls Tryd.prog 64 #[.pointer (some ⟨g, 0, none⟩), .slice A ss.length c] w (DrawnT w B g (a + 2) m) := by
  have h1 := hx.len
  have h2 := hx.max
  rw [scells_len] at h1
  have HM := Lib.hid hm; clear hm
  go_enter Tryd.func64, Tryd.ntmps64
  go_wp2_with fail
  ((with_reducible refine (pick_any _ _ _ _ _ h ha hl hl2).mono ?_); rintro e w1 ⟨x, ⟨hx0, hx1⟩, rfl, hc1, hg1⟩)
  obtain ⟨k, rfl⟩ := Int.eq_ofNat_of_zero_le hx0
  have hk : k < ss.length := by omega
  have hx' : Rd w1 w.heap.size A c (scells ss) := Rd.gb (lo := g + 1) hx hlo hg1 (Nat.le_refl _) (.inl (by omega))
  obtain ⟨b, o, rfl, hbB, hc⟩ := hx'.at (j := k) (by rw [scells_len]; exact hk)
  have hck := hc k _ (scells_at ss k ss[k] (List.getElem?_eq_getElem hk))
  have HZ := Lib.hid (HM.out ss[k] (List.getElem_mem hk))
  generalize ss[k] = t at *
  clear hc hx hx' hlo
  go_wp2
  go_ret
  exact ⟨t, rfl, HZ.out, hc1, hg1⟩

set_option maxHeartbeats 1600000 in
theorem spoilt_any (w : World) (B g a : Nat) (t v : ByteArray) (h : Cur w B g a) (ha : a ≤ 800000000) (ht : t.size ≤ 1000) (hv1 : 1 ≤ v.size) (hv : v.size ≤ 1000) :
    Calls Tryd.prog 50 #[.pointer (some ⟨g, 0, none⟩), .string t, .string v] w (DrawnT w B g (a + 6) (t.size + 1)) := by
  by_cases h0 : t.size = 0
  · obtain rfl : t = ByteArray.empty := by
      have : t.data.toList = [] := List.eq_nil_of_length_eq_zero (by rw [data_len]; exact h0)
      rw [str_of t this]; rfl
    go_enter Tryd.func50, Tryd.ntmps50
    go_wp2
    go_ret
    exact ⟨_, rfl, by rw [ByteArray.size_extract]; omega, h.more (by omega), Gb.refl _ _ _⟩
  · have hemp : t.toList.isEmpty = false := by
      rw [ByteArray.toList_eq]
      cases he : t.data.toList
      · exact absurd (by rw [← data_len, he]; rfl) h0
      · rfl
    go_enter Tryd.func50, Tryd.ntmps50
    go_wp2_with fail
    ((with_reducible refine (pick_any _ _ _ _ _ h (by omega) (by omega) (by omega)).mono ?_); rintro e w1 ⟨x, ⟨hx0, hx1⟩, rfl, hc1, hg1⟩)
    obtain ⟨k, rfl⟩ := Int.eq_ofNat_of_zero_le hx0
    have hk : k < t.size := by omega
    go_wp2_with fail
    ((with_reducible refine (pick_any _ _ _ _ _ hc1 (by omega) hv1 (by omega)).mono ?_); rintro e w2 ⟨y, ⟨hy0, hy1⟩, rfl, hc2, hg2⟩)
    obtain ⟨j, rfl⟩ := Int.eq_ofNat_of_zero_le hy0
    have hj : j < v.size := by omega
    have hvs : (v.extract j v.size).size = v.size - j := by rw [ByteArray.size_extract]; omega
    have hv2 : (1 : Int) ≤ ((v.extract j v.size).size : Int) := by omega
    have hw3 : ((v.extract j v.size).extract 0 1).size = 1 := by rw [ByteArray.size_extract]; omega
    go_wp2_with fail
    generalize (v.extract j v.size).extract 0 1 = u at *
    generalize v.extract j v.size = v2 at *
    clear hvs hv2
    ((with_reducible refine (pickI _ _ _ _ _ hc2 (by omega) (by decide) (by decide)).mono ?_); rintro e w3 ⟨z, ⟨hz0, hz1⟩, rfl, hc3, hg3⟩)
    have hgA := gbtr (gbtr hg1 hg2) hg3
    have hc4 := hc3.more (show a + 2 + 2 + 2 ≤ a + 6 by omega)
    clear hc1 hg1 hc2 hg2 hg3 hc3
    obtain ⟨p, hp⟩ : ∃ p, p = t.extract 0 k := ⟨_, rfl⟩
    obtain ⟨q, hq⟩ : ∃ q, q = t.extract k t.size := ⟨_, rfl⟩
    obtain ⟨q1, hq1⟩ : ∃ q1, q1 = t.extract (k + 1) t.size := ⟨_, rfl⟩
    have zp : p.size = k := by rw [hp, ByteArray.size_extract]; omega
    have zq : q.size = t.size - k := by rw [hq, ByteArray.size_extract]; omega
    have zq1 : q1.size = t.size - k - 1 := by rw [hq1, ByteArray.size_extract]; omega
    obtain ⟨pu, hpu⟩ : ∃ r, r = p ++ u := ⟨_, rfl⟩
    obtain ⟨r0, hr0⟩ : ∃ r, r = pu ++ q := ⟨_, rfl⟩
    obtain ⟨r1, hr1⟩ : ∃ r, r = pu ++ q1 := ⟨_, rfl⟩
    obtain ⟨r2, hr2⟩ : ∃ r, r = p ++ q1 := ⟨_, rfl⟩
    have zpu : pu.size = k + 1 := by rw [hpu, ByteArray.size_append]; omega
    have z0 : r0.size = t.size + 1 := by rw [hr0, ByteArray.size_append]; omega
    have z1 : r1.size = t.size := by rw [hr1, ByteArray.size_append]; omega
    have z2 : r2.size = t.size - 1 := by rw [hr2, ByteArray.size_append]; omega
    have hadd0 := fun w => run_string_add_sum (P := Tryd.prog) w p u (by omega)
    have hadd1 := fun w => run_string_add_sum (P := Tryd.prog) w pu q (by omega)
    have hadd2 := fun w => run_string_add_sum (P := Tryd.prog) w pu q1 (by omega)
    have hadd3 := fun w => run_string_add_sum (P := Tryd.prog) w p q1 (by omega)
    rw [← hpu] at hadd0
    rw [← hr0] at hadd1
    rw [← hr1] at hadd2
    rw [← hr2] at hadd3
    rw [hp] at hadd0 hadd3
    rw [hq] at hadd1
    rw [hq1] at hadd2 hadd3
    clear hp hq hq1 hpu hr0 hr1 hr2 zp zq zq1 zpu
    by_cases e0 : z = 0
    · subst e0
      go_wp2
      go_quiet (fail)
      go_wp2
      go_ret
      exact ⟨r0, rfl, by omega, hc4, hgA⟩
    · by_cases e1 : z = 1
      · subst e1
        go_wp2
        go_quiet (fail)
        go_wp2
        go_ret
        exact ⟨r1, rfl, by omega, hc4, hgA⟩
      · go_wp2
        go_quiet (fail)
        go_wp2
        go_ret
        exact ⟨r2, rfl, by omega, hc4, hgA⟩

/-- A drawn text, and what lies above the cursor stays. -/
theorem Own.cur {w w' : World} {base g : Nat} {E : TypeId} {v : Value} {cs : List Value} (h : Own w base E v cs) (hg : g < base) (hb : Gb w.heap.size g w w') : Own w' base E v cs := h.gb hg hb

end Go.Proofs.YtbhficohgdlojaaDoor
