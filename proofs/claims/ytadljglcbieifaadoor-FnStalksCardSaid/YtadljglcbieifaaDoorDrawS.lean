/- Draws of texts: of, spoilt, strips. Conditions: none. -/
import Derived.Test.YtadljglcbieifaaDoorBig
import Derived.Test.YtadljglcbieifaaDoorBytes
namespace Go.Proofs.YtadljglcbieifaaDoor
open Go.RowKit
set_option linter.unusedVariables false

/-- A drawn text of at most m bytes. -/
def DrawnT (w : World) (B g a m : Nat) (e : Ending) (w' : World) : Prop := ∃ s : ByteArray, e = .returned (.string s) ∧ s.size ≤ m ∧ Cur w' B g a ∧ Gb w.heap.size g w w'
theorem rd_strs {w : World} {L : Nat} {T : TypeId} (ss : List ByteArray) (h : Blk w L T (scells ss).toArray) (hm : ss.length ≤ 1000) : Rd w w.heap.size (some ⟨L, 0, none⟩) ss.length (scells ss) :=
  ⟨by rw [scells_len]; exact Nat.le_refl _, by unfold maxLen; omega, fun e => (nomatch e), fun j hj => ⟨L, 0, rfl, Blk.lt h, fun i u hi => by
    have := Blk.cell h i
    rw [List.getElem?_toArray, hi] at this
    rw [Nat.zero_add]; exact this⟩⟩

theorem rd_ints {w : World} {L : Nat} {T : TypeId} (xs : List Int) (h : Blk w L T (ints xs).toArray) (hm : xs.length ≤ 1000) : RdI w w.heap.size (some ⟨L, 0, none⟩) xs.length xs :=
  ⟨by rw [ints_len]; exact Nat.le_refl _, by unfold maxLen; omega, fun e => (nomatch e), fun j hj => ⟨L, 0, rfl, Blk.lt h, fun i u hi => by
    have := Blk.cell h i
    rw [List.getElem?_toArray, hi] at this
    rw [Nat.zero_add]; exact this⟩⟩
set_option maxHeartbeats 800000 in
theorem of_any (w : World) (B g a m : Nat) (A : Option Addr) (c : Nat) (ss : List ByteArray) (h : Cur w B g a) (ha : a ≤ 900000000) (hx : Rd w w.heap.size A c (scells ss)) (hlo : Lo (g + 1) A) (hl : 1 ≤ ss.length) (hl2 : ss.length ≤ 60000) (hm : ∀ s ∈ ss, s.size ≤ m) :
    Calls Tryd.prog 137 #[.pointer (some ⟨g, 0, none⟩), .slice A ss.length c] w (DrawnT w B g (a + 2) m) := by
  have h1 := hx.len
  have h2 := hx.max
  rw [scells_len] at h1
  have HM := Lib.hid hm; clear hm
  go_enter Tryd.func137, Tryd.ntmps137
  go_wp2_with fail
  ((with_reducible refine (pick_any _ _ _ _ _ h ha hl hl2).mono ?_); rintro e w1 ⟨x, ⟨hx0, hx1⟩, rfl, hc1, hg1⟩)
  obtain ⟨k, rfl⟩ := Int.eq_ofNat_of_zero_le hx0
  have hk : k < ss.length := by omega
  have hx' : Rd w1 w.heap.size A c (scells ss) := Rd.gb (lo := g + 1) hx hlo hg1 (Nat.le_refl _) (.inl (by omega))
  obtain ⟨b, o, rfl, hbB, hc⟩ := hx'.at (j := k) (by rw [scells_len]; exact hk)
  have hck := hc k _ (scells_at ss k ss[k] (List.getElem?_eq_getElem hk))
  have HZ := Lib.hid (HM.out ss[k] (List.getElem_mem hk))
  generalize ss[k] = t at *
  clear hc hx hx' hlo
  go_wp2
  go_ret
  exact ⟨t, rfl, HZ.out, hc1, hg1⟩

set_option maxHeartbeats 1600000 in
theorem spoilt_any (w : World) (B g a : Nat) (t v : ByteArray) (h : Cur w B g a) (ha : a ≤ 800000000) (ht : t.size ≤ 1000) (hv1 : 1 ≤ v.size) (hv : v.size ≤ 1000) :
    Calls Tryd.prog 119 #[.pointer (some ⟨g, 0, none⟩), .string t, .string v] w (DrawnT w B g (a + 6) (t.size + 1)) := by
  by_cases h0 : t.size = 0
  · obtain rfl : t = ByteArray.empty := by
      have : t.data.toList = [] := List.eq_nil_of_length_eq_zero (by rw [data_len]; exact h0)
      rw [str_of t this]; rfl
    go_enter Tryd.func119, Tryd.ntmps119
    go_wp2
    go_ret
    exact ⟨_, rfl, by rw [ByteArray.size_extract]; omega, h.more (by omega), Gb.refl _ _ _⟩
  · have hemp : t.toList.isEmpty = false := by
      rw [ByteArray.toList_eq]
      cases he : t.data.toList
      · exact absurd (by rw [← data_len, he]; rfl) h0
      · rfl
    go_enter Tryd.func119, Tryd.ntmps119
    go_wp2_with fail
    ((with_reducible refine (pick_any _ _ _ _ _ h (by omega) (by omega) (by omega)).mono ?_); rintro e w1 ⟨x, ⟨hx0, hx1⟩, rfl, hc1, hg1⟩)
    obtain ⟨k, rfl⟩ := Int.eq_ofNat_of_zero_le hx0
    have hk : k < t.size := by omega
    go_wp2_with fail
    ((with_reducible refine (pick_any _ _ _ _ _ hc1 (by omega) hv1 (by omega)).mono ?_); rintro e w2 ⟨y, ⟨hy0, hy1⟩, rfl, hc2, hg2⟩)
    obtain ⟨j, rfl⟩ := Int.eq_ofNat_of_zero_le hy0
    have hj : j < v.size := by omega
    have hvs : (v.extract j v.size).size = v.size - j := by rw [ByteArray.size_extract]; omega
    have hv2 : (1 : Int) ≤ ((v.extract j v.size).size : Int) := by omega
    have hw3 : ((v.extract j v.size).extract 0 1).size = 1 := by rw [ByteArray.size_extract]; omega
    go_wp2_with fail
    generalize (v.extract j v.size).extract 0 1 = u at *
    generalize v.extract j v.size = v2 at *
    clear hvs hv2
    ((with_reducible refine (pickI _ _ _ _ _ hc2 (by omega) (by decide) (by decide)).mono ?_); rintro e w3 ⟨z, ⟨hz0, hz1⟩, rfl, hc3, hg3⟩)
    have hgA := gbtr (gbtr hg1 hg2) hg3
    have hc4 := hc3.more (show a + 2 + 2 + 2 ≤ a + 6 by omega)
    clear hc1 hg1 hc2 hg2 hg3 hc3
    obtain ⟨p, hp⟩ : ∃ p, p = t.extract 0 k := ⟨_, rfl⟩
    obtain ⟨q, hq⟩ : ∃ q, q = t.extract k t.size := ⟨_, rfl⟩
    obtain ⟨q1, hq1⟩ : ∃ q1, q1 = t.extract (k + 1) t.size := ⟨_, rfl⟩
    have zp : p.size = k := by rw [hp, ByteArray.size_extract]; omega
    have zq : q.size = t.size - k := by rw [hq, ByteArray.size_extract]; omega
    have zq1 : q1.size = t.size - k - 1 := by rw [hq1, ByteArray.size_extract]; omega
    obtain ⟨pu, hpu⟩ : ∃ r, r = p ++ u := ⟨_, rfl⟩
    obtain ⟨r0, hr0⟩ : ∃ r, r = pu ++ q := ⟨_, rfl⟩
    obtain ⟨r1, hr1⟩ : ∃ r, r = pu ++ q1 := ⟨_, rfl⟩
    obtain ⟨r2, hr2⟩ : ∃ r, r = p ++ q1 := ⟨_, rfl⟩
    have zpu : pu.size = k + 1 := by rw [hpu, ByteArray.size_append]; omega
    have z0 : r0.size = t.size + 1 := by rw [hr0, ByteArray.size_append]; omega
    have z1 : r1.size = t.size := by rw [hr1, ByteArray.size_append]; omega
    have z2 : r2.size = t.size - 1 := by rw [hr2, ByteArray.size_append]; omega
    have hadd0 := fun w => run_string_add_sum (P := Tryd.prog) w p u (by omega)
    have hadd1 := fun w => run_string_add_sum (P := Tryd.prog) w pu q (by omega)
    have hadd2 := fun w => run_string_add_sum (P := Tryd.prog) w pu q1 (by omega)
    have hadd3 := fun w => run_string_add_sum (P := Tryd.prog) w p q1 (by omega)
    rw [← hpu] at hadd0
    rw [← hr0] at hadd1
    rw [← hr1] at hadd2
    rw [← hr2] at hadd3
    rw [hp] at hadd0 hadd3
    rw [hq] at hadd1
    rw [hq1] at hadd2 hadd3
    clear hp hq hq1 hpu hr0 hr1 hr2 zp zq zq1 zpu
    by_cases e0 : z = 0
    · subst e0
      go_wp2
      go_quiet (fail)
      go_wp2
      go_ret
      exact ⟨r0, rfl, by omega, hc4, hgA⟩
    · by_cases e1 : z = 1
      · subst e1
        go_wp2
        go_quiet (fail)
        go_wp2
        go_ret
        exact ⟨r1, rfl, by omega, hc4, hgA⟩
      · go_wp2
        go_quiet (fail)
        go_wp2
        go_ret
        exact ⟨r2, rfl, by omega, hc4, hgA⟩

/-- A drawn text, and what lies above the cursor stays. -/
theorem Own.cur {w w' : World} {base g : Nat} {E : TypeId} {v : Value} {cs : List Value} (h : Own w base E v cs) (hg : g < base) (hb : Gb w.heap.size g w w') : Own w' base E v cs := h.gb hg hb

set_option maxRecDepth 100000 in
set_option maxHeartbeats 1600000 in
theorem drawStrip_loop (w : World) (B g a : Nat) (kind most : Int) (h : Cur w B g a) (ha : a ≤ 100000000) (hm1 : 0 ≤ most) (hm2 : most ≤ 100) :
    Calls Tryd.prog 198 #[.pointer (some ⟨g, 0, none⟩), .int .i64 kind, .int .i64 most] w (DrawnT w B g (a + 1000) 200) := by
  have hlt0 := h.lt
  by_cases k0 : kind = 0
  · subst k0
    go_enter Tryd.func198, Tryd.ntmps198
    go_wp2_with fail
    have hB : Below w.heap.size w ((w.alloc (.cells #[.string ⟨#[76]⟩, .string ⟨#[82]⟩, .string ⟨#[46]⟩, .string ⟨#[76]⟩, .string ⟨#[82]⟩] 9)).alloc (.cells #[.string ⟨#[84]⟩, .string ⟨#[70]⟩, .string ⟨#[46]⟩, .string ⟨#[46]⟩] 9)) := ((Below.refl _ _).alloc (Nat.le_refl _) _).alloc (by simp) _
    have hK : Blk ((w.alloc (.cells #[.string ⟨#[76]⟩, .string ⟨#[82]⟩, .string ⟨#[46]⟩, .string ⟨#[76]⟩, .string ⟨#[82]⟩] 9)).alloc (.cells #[.string ⟨#[84]⟩, .string ⟨#[70]⟩, .string ⟨#[46]⟩, .string ⟨#[46]⟩] 9)) (w.heap.size + 1) 9 (scells [(⟨#[84]⟩ : ByteArray), (⟨#[70]⟩ : ByteArray), (⟨#[46]⟩ : ByteArray), (⟨#[46]⟩ : ByteArray)]).toArray := by
      show Blk _ _ _ #[.string ⟨#[84]⟩, .string ⟨#[70]⟩, .string ⟨#[46]⟩, .string ⟨#[46]⟩]
      exact Blk.new_at _ _ _ (by simp)
    have hgL : g < w.heap.size + 1 := by omega
    obtain ⟨L, hL⟩ : ∃ L, L = w.heap.size + 1 := ⟨_, rfl⟩
    rw [← hL] at hK hgL ⊢
    generalize (w.alloc (.cells #[.string ⟨#[76]⟩, .string ⟨#[82]⟩, .string ⟨#[46]⟩, .string ⟨#[76]⟩, .string ⟨#[82]⟩] 9)).alloc (.cells #[.string ⟨#[84]⟩, .string ⟨#[70]⟩, .string ⟨#[46]⟩, .string ⟨#[46]⟩] 9) = W at *
    clear hL
    have hc0 := h.below hB
    have hzW := hB.size
    have hLW := hK.lt
    ((with_reducible refine (pickI _ _ _ _ _ hc0 (by omega) (by omega) (by omega)).mono ?_); rintro e w1 ⟨x, ⟨hx0, hx1⟩, rfl, hc1, hg1⟩)
    obtain ⟨x, rfl⟩ := Int.eq_ofNat_of_zero_le hx0
    have HC1 := Lib.hid (hc1.more (show a + 2 ≤ a + 300 - 2 * x by omega)); have HG1 := Lib.hid hg1
    clear hc1 hg1 hc0 h
    go_wp2
    go_loopw [8, 9] (fun s' i wr => ∃ (k : Nat) (s : ByteArray), i = .int .i64 k ∧ k ≤ 100 ∧ s' = .string s ∧ s.size + k ≤ 101 ∧ Gb W.heap.size g W wr ∧ Cur wr B g (a + 300 - 2 * k)) (fun _ i _ => (intOf i).toNat)
    case atStart => exact ⟨x, _, rfl, by omega, rfl, by show 0 + x ≤ 101; omega, HG1.out, HC1.out⟩
    case round =>
      obtain ⟨k, s, rfl, hk, rfl, hsz, hg, hc⟩ := hrel
      clear HC1 HG1
      have hzr := hg.size
      by_cases hp : 0 < k
      · have hK2 : Blk wr L 9 (scells [(⟨#[84]⟩ : ByteArray), (⟨#[70]⟩ : ByteArray), (⟨#[46]⟩ : ByteArray), (⟨#[46]⟩ : ByteArray)]).toArray := hK.gb hg (by omega) (by omega)
        have hr := rd_strs [(⟨#[84]⟩ : ByteArray), (⟨#[70]⟩ : ByteArray), (⟨#[46]⟩ : ByteArray), (⟨#[46]⟩ : ByteArray)] hK2 (by decide)
        have HG := Lib.hid hg; have HC := Lib.hid hc
        clear hg hc
        have hof : Calls Tryd.prog 137 #[.pointer (some ⟨g, 0, none⟩), .slice (some ⟨L, 0, none⟩) 4 4] wr (DrawnT wr B g (a + 300 - 2 * k + 2) 1) := of_any wr B g (a + 300 - 2 * k) 1 (some ⟨L, 0, none⟩) 4 [(⟨#[84]⟩ : ByteArray), (⟨#[70]⟩ : ByteArray), (⟨#[46]⟩ : ByteArray), (⟨#[46]⟩ : ByteArray)] HC.out (by omega) hr (fun b hb => by injection hb with hb; subst hb; show g + 1 ≤ L; omega) (by decide) (by decide) (by decide)
        have HOF := Lib.hid hof
        clear hr hof hK2
        go_wp2_with fail
        ((with_reducible refine HOF.out.mono ?_); rintro e w2 ⟨t, rfl, ht, hc2, hg2⟩)
        obtain ⟨st, hst⟩ : ∃ r, r = s ++ t := ⟨_, rfl⟩
        have hadd := fun w => run_string_add_sum (P := Tryd.prog) w s t (by omega)
        rw [← hst] at hadd
        have hzs : st.size ≤ s.size + 1 := by rw [hst, ByteArray.size_append]; omega
        clear hst
        go_wp2
        go_roundw
        case rel => exact ⟨k - 1, st, by go_num, by omega, rfl, by omega, HG.out.trans (hg2.mono hzr), hc2.more (by omega)⟩
        case measure => simp [intOf]; omega
      · obtain rfl : k = 0 := by omega
        have HG := Lib.hid hg
        clear hg
        go_wp2_with fail
        ((with_reducible refine (oneI _ _ _ _ _ hc (by omega) (by decide) (by decide)).mono ?_); rintro e w3 ⟨b, rfl, hc3, hg3⟩)
        have HG3 := Lib.hid (HG.out.trans (hg3.mono hzr))
        have hz3 := HG3.out.size
        clear hg3 HG
        cases b
        · go_wp2
          go_ret
          exact ⟨s, rfl, by omega, hc3.more (by omega), (Gb.of_below hB).trans (HG3.out.mono hzW)⟩
        · go_wp2_with fail
          ((with_reducible refine (spoilt_any _ _ _ _ s _ hc3 (by omega) (by omega) (by decide) (by decide)).mono ?_); rintro e w4 ⟨t, rfl, ht, hc4, hg4⟩)
          go_wp2
          go_ret
          exact ⟨t, rfl, by omega, hc4.more (by omega), ((Gb.of_below hB).trans (HG3.out.mono hzW)).trans (hg4.mono (by omega))⟩
  · by_cases k1 : 1 < kind
    · go_enter Tryd.func198, Tryd.ntmps198
      go_wp2_with fail
      have hB : Below w.heap.size w ((w.alloc (.cells #[.string ⟨#[76]⟩, .string ⟨#[82]⟩, .string ⟨#[46]⟩, .string ⟨#[76]⟩, .string ⟨#[82]⟩] 9)).alloc (.cells #[.string ⟨#[46]⟩, .string ⟨#[46]⟩, .string ⟨#[46]⟩, .string ⟨#[76]⟩, .string ⟨#[82]⟩] 9)) := ((Below.refl _ _).alloc (Nat.le_refl _) _).alloc (by simp) _
      have hK : Blk ((w.alloc (.cells #[.string ⟨#[76]⟩, .string ⟨#[82]⟩, .string ⟨#[46]⟩, .string ⟨#[76]⟩, .string ⟨#[82]⟩] 9)).alloc (.cells #[.string ⟨#[46]⟩, .string ⟨#[46]⟩, .string ⟨#[46]⟩, .string ⟨#[76]⟩, .string ⟨#[82]⟩] 9)) (w.heap.size + 1) 9 (scells [(⟨#[46]⟩ : ByteArray), (⟨#[46]⟩ : ByteArray), (⟨#[46]⟩ : ByteArray), (⟨#[76]⟩ : ByteArray), (⟨#[82]⟩ : ByteArray)]).toArray := by
        show Blk _ _ _ #[.string ⟨#[46]⟩, .string ⟨#[46]⟩, .string ⟨#[46]⟩, .string ⟨#[76]⟩, .string ⟨#[82]⟩]
        exact Blk.new_at _ _ _ (by simp)
      have hgL : g < w.heap.size + 1 := by omega
      obtain ⟨L, hL⟩ : ∃ L, L = w.heap.size + 1 := ⟨_, rfl⟩
      rw [← hL] at hK hgL ⊢
      generalize (w.alloc (.cells #[.string ⟨#[76]⟩, .string ⟨#[82]⟩, .string ⟨#[46]⟩, .string ⟨#[76]⟩, .string ⟨#[82]⟩] 9)).alloc (.cells #[.string ⟨#[46]⟩, .string ⟨#[46]⟩, .string ⟨#[46]⟩, .string ⟨#[76]⟩, .string ⟨#[82]⟩] 9) = W at *
      clear hL
      have hc0 := h.below hB
      have hzW := hB.size
      have hLW := hK.lt
      ((with_reducible refine (pickI _ _ _ _ _ hc0 (by omega) (by omega) (by omega)).mono ?_); rintro e w1 ⟨x, ⟨hx0, hx1⟩, rfl, hc1, hg1⟩)
      obtain ⟨x, rfl⟩ := Int.eq_ofNat_of_zero_le hx0
      have HC1 := Lib.hid (hc1.more (show a + 2 ≤ a + 300 - 2 * x by omega)); have HG1 := Lib.hid hg1
      clear hc1 hg1 hc0 h
      go_wp2
      go_loopw [8, 9] (fun s' i wr => ∃ (k : Nat) (s : ByteArray), i = .int .i64 k ∧ k ≤ 100 ∧ s' = .string s ∧ s.size + k ≤ 101 ∧ Gb W.heap.size g W wr ∧ Cur wr B g (a + 300 - 2 * k)) (fun _ i _ => (intOf i).toNat)
      case atStart => exact ⟨x, _, rfl, by omega, rfl, by show 0 + x ≤ 101; omega, HG1.out, HC1.out⟩
      case round =>
        obtain ⟨k, s, rfl, hk, rfl, hsz, hg, hc⟩ := hrel
        clear HC1 HG1
        have hzr := hg.size
        by_cases hp : 0 < k
        · have hK2 : Blk wr L 9 (scells [(⟨#[46]⟩ : ByteArray), (⟨#[46]⟩ : ByteArray), (⟨#[46]⟩ : ByteArray), (⟨#[76]⟩ : ByteArray), (⟨#[82]⟩ : ByteArray)]).toArray := hK.gb hg (by omega) (by omega)
          have hr := rd_strs [(⟨#[46]⟩ : ByteArray), (⟨#[46]⟩ : ByteArray), (⟨#[46]⟩ : ByteArray), (⟨#[76]⟩ : ByteArray), (⟨#[82]⟩ : ByteArray)] hK2 (by decide)
          have HG := Lib.hid hg; have HC := Lib.hid hc
          clear hg hc
          have hof : Calls Tryd.prog 137 #[.pointer (some ⟨g, 0, none⟩), .slice (some ⟨L, 0, none⟩) 5 5] wr (DrawnT wr B g (a + 300 - 2 * k + 2) 1) := of_any wr B g (a + 300 - 2 * k) 1 (some ⟨L, 0, none⟩) 5 [(⟨#[46]⟩ : ByteArray), (⟨#[46]⟩ : ByteArray), (⟨#[46]⟩ : ByteArray), (⟨#[76]⟩ : ByteArray), (⟨#[82]⟩ : ByteArray)] HC.out (by omega) hr (fun b hb => by injection hb with hb; subst hb; show g + 1 ≤ L; omega) (by decide) (by decide) (by decide)
          have HOF := Lib.hid hof
          clear hr hof hK2
          go_wp2_with fail
          ((with_reducible refine HOF.out.mono ?_); rintro e w2 ⟨t, rfl, ht, hc2, hg2⟩)
          obtain ⟨st, hst⟩ : ∃ r, r = s ++ t := ⟨_, rfl⟩
          have hadd := fun w => run_string_add_sum (P := Tryd.prog) w s t (by omega)
          rw [← hst] at hadd
          have hzs : st.size ≤ s.size + 1 := by rw [hst, ByteArray.size_append]; omega
          clear hst
          go_wp2
          go_roundw
          case rel => exact ⟨k - 1, st, by go_num, by omega, rfl, by omega, HG.out.trans (hg2.mono hzr), hc2.more (by omega)⟩
          case measure => simp [intOf]; omega
        · obtain rfl : k = 0 := by omega
          have HG := Lib.hid hg
          clear hg
          go_wp2_with fail
          ((with_reducible refine (oneI _ _ _ _ _ hc (by omega) (by decide) (by decide)).mono ?_); rintro e w3 ⟨b, rfl, hc3, hg3⟩)
          have HG3 := Lib.hid (HG.out.trans (hg3.mono hzr))
          have hz3 := HG3.out.size
          clear hg3 HG
          cases b
          · go_wp2
            go_ret
            exact ⟨s, rfl, by omega, hc3.more (by omega), (Gb.of_below hB).trans (HG3.out.mono hzW)⟩
          · go_wp2_with fail
            ((with_reducible refine (spoilt_any _ _ _ _ s _ hc3 (by omega) (by omega) (by decide) (by decide)).mono ?_); rintro e w4 ⟨t, rfl, ht, hc4, hg4⟩)
            go_wp2
            go_ret
            exact ⟨t, rfl, by omega, hc4.more (by omega), ((Gb.of_below hB).trans (HG3.out.mono hzW)).trans (hg4.mono (by omega))⟩
    · go_enter Tryd.func198, Tryd.ntmps198
      go_wp2_with fail
      have hB : Below w.heap.size w (w.alloc (.cells #[.string ⟨#[76]⟩, .string ⟨#[82]⟩, .string ⟨#[46]⟩, .string ⟨#[76]⟩, .string ⟨#[82]⟩] 9)) := (Below.refl _ _).alloc (Nat.le_refl _) _
      have hK : Blk (w.alloc (.cells #[.string ⟨#[76]⟩, .string ⟨#[82]⟩, .string ⟨#[46]⟩, .string ⟨#[76]⟩, .string ⟨#[82]⟩] 9)) (w.heap.size) 9 (scells [(⟨#[76]⟩ : ByteArray), (⟨#[82]⟩ : ByteArray), (⟨#[46]⟩ : ByteArray), (⟨#[76]⟩ : ByteArray), (⟨#[82]⟩ : ByteArray)]).toArray := by
        show Blk _ _ _ #[.string ⟨#[76]⟩, .string ⟨#[82]⟩, .string ⟨#[46]⟩, .string ⟨#[76]⟩, .string ⟨#[82]⟩]
        exact Blk.new _ _ _
      have hgL : g < w.heap.size := by omega
      obtain ⟨L, hL⟩ : ∃ L, L = w.heap.size := ⟨_, rfl⟩
      rw [← hL] at hK hgL ⊢
      generalize w.alloc (.cells #[.string ⟨#[76]⟩, .string ⟨#[82]⟩, .string ⟨#[46]⟩, .string ⟨#[76]⟩, .string ⟨#[82]⟩] 9) = W at *
      clear hL
      have hc0 := h.below hB
      have hzW := hB.size
      have hLW := hK.lt
      ((with_reducible refine (pickI _ _ _ _ _ hc0 (by omega) (by omega) (by omega)).mono ?_); rintro e w1 ⟨x, ⟨hx0, hx1⟩, rfl, hc1, hg1⟩)
      obtain ⟨x, rfl⟩ := Int.eq_ofNat_of_zero_le hx0
      have HC1 := Lib.hid (hc1.more (show a + 2 ≤ a + 300 - 2 * x by omega)); have HG1 := Lib.hid hg1
      clear hc1 hg1 hc0 h
      go_wp2
      go_loopw [8, 9] (fun s' i wr => ∃ (k : Nat) (s : ByteArray), i = .int .i64 k ∧ k ≤ 100 ∧ s' = .string s ∧ s.size + k ≤ 101 ∧ Gb W.heap.size g W wr ∧ Cur wr B g (a + 300 - 2 * k)) (fun _ i _ => (intOf i).toNat)
      case atStart => exact ⟨x, _, rfl, by omega, rfl, by show 0 + x ≤ 101; omega, HG1.out, HC1.out⟩
      case round =>
        obtain ⟨k, s, rfl, hk, rfl, hsz, hg, hc⟩ := hrel
        clear HC1 HG1
        have hzr := hg.size
        by_cases hp : 0 < k
        · have hK2 : Blk wr L 9 (scells [(⟨#[76]⟩ : ByteArray), (⟨#[82]⟩ : ByteArray), (⟨#[46]⟩ : ByteArray), (⟨#[76]⟩ : ByteArray), (⟨#[82]⟩ : ByteArray)]).toArray := hK.gb hg (by omega) (by omega)
          have hr := rd_strs [(⟨#[76]⟩ : ByteArray), (⟨#[82]⟩ : ByteArray), (⟨#[46]⟩ : ByteArray), (⟨#[76]⟩ : ByteArray), (⟨#[82]⟩ : ByteArray)] hK2 (by decide)
          have HG := Lib.hid hg; have HC := Lib.hid hc
          clear hg hc
          have hof : Calls Tryd.prog 137 #[.pointer (some ⟨g, 0, none⟩), .slice (some ⟨L, 0, none⟩) 5 5] wr (DrawnT wr B g (a + 300 - 2 * k + 2) 1) := of_any wr B g (a + 300 - 2 * k) 1 (some ⟨L, 0, none⟩) 5 [(⟨#[76]⟩ : ByteArray), (⟨#[82]⟩ : ByteArray), (⟨#[46]⟩ : ByteArray), (⟨#[76]⟩ : ByteArray), (⟨#[82]⟩ : ByteArray)] HC.out (by omega) hr (fun b hb => by injection hb with hb; subst hb; show g + 1 ≤ L; omega) (by decide) (by decide) (by decide)
          have HOF := Lib.hid hof
          clear hr hof hK2
          go_wp2_with fail
          ((with_reducible refine HOF.out.mono ?_); rintro e w2 ⟨t, rfl, ht, hc2, hg2⟩)
          obtain ⟨st, hst⟩ : ∃ r, r = s ++ t := ⟨_, rfl⟩
          have hadd := fun w => run_string_add_sum (P := Tryd.prog) w s t (by omega)
          rw [← hst] at hadd
          have hzs : st.size ≤ s.size + 1 := by rw [hst, ByteArray.size_append]; omega
          clear hst
          go_wp2
          go_roundw
          case rel => exact ⟨k - 1, st, by go_num, by omega, rfl, by omega, HG.out.trans (hg2.mono hzr), hc2.more (by omega)⟩
          case measure => simp [intOf]; omega
        · obtain rfl : k = 0 := by omega
          have HG := Lib.hid hg
          clear hg
          go_wp2_with fail
          ((with_reducible refine (oneI _ _ _ _ _ hc (by omega) (by decide) (by decide)).mono ?_); rintro e w3 ⟨b, rfl, hc3, hg3⟩)
          have HG3 := Lib.hid (HG.out.trans (hg3.mono hzr))
          have hz3 := HG3.out.size
          clear hg3 HG
          cases b
          · go_wp2
            go_ret
            exact ⟨s, rfl, by omega, hc3.more (by omega), (Gb.of_below hB).trans (HG3.out.mono hzW)⟩
          · go_wp2_with fail
            ((with_reducible refine (spoilt_any _ _ _ _ s _ hc3 (by omega) (by omega) (by decide) (by decide)).mono ?_); rintro e w4 ⟨t, rfl, ht, hc4, hg4⟩)
            go_wp2
            go_ret
            exact ⟨t, rfl, by omega, hc4.more (by omega), ((Gb.of_below hB).trans (HG3.out.mono hzW)).trans (hg4.mono (by omega))⟩

/-- A drawn kind and a drawn text. -/
def DrawnKT (w : World) (B g a m : Nat) (e : Ending) (w' : World) : Prop := ∃ (k : Int) (s : ByteArray), e = .returned (.tuple #[.int .i64 k, .string s]) ∧ s.size ≤ m ∧ -1 ≤ k ∧ k ≤ 4 ∧ Cur w' B g a ∧ Gb w.heap.size g w w'
set_option maxHeartbeats 1600000 in
theorem drawOne_any (w : World) (B g a : Nat) (most : Int) (h : Cur w B g a) (ha : a ≤ 1000000) (hm1 : 0 ≤ most) (hm2 : most ≤ 100) :
    Calls Tryd.prog 156 #[.pointer (some ⟨g, 0, none⟩), .int .i64 most] w (DrawnKT w B g (a + 1010) 200) := by
  have hlt0 := h.lt
  go_enter Tryd.func156, Tryd.ntmps156
  go_wp2_with fail
  ((with_reducible refine (pickI _ _ _ _ _ h (by omega) (by decide) (by decide)).mono ?_); rintro e w1 ⟨k, ⟨hk0, hk1⟩, rfl, hc1, hg1⟩)
  go_wp2_with fail
  ((with_reducible refine (drawStrip_loop _ _ _ _ k most hc1 (by omega) hm1 hm2).mono ?_); rintro e w2 ⟨s, rfl, hs, hc2, hg2⟩)
  have hgA := gbtr hg1 hg2
  go_wp2_with fail
  ((with_reducible refine (oneI _ _ _ _ _ hc2 (by omega) (by decide) (by decide)).mono ?_); rintro e w3 ⟨b, rfl, hc3, hg3⟩)
  have hgB := gbtr hgA hg3
  have hl3 := hc3.lt
  clear hg1 hg2 hg3 hgA hc1 hc2
  cases b
  · go_wp2
    go_ret2
    exact ⟨k, s, rfl, hs, by omega, by omega, hc3.more (by omega), hgB⟩
  · go_wp2_with fail
    have hK := Blk.new w3 3 #[.int .i64 (-1), .int .i64 4]
    have hcW := hc3.below (bel1 w3 (.cells #[.int .i64 (-1), .int .i64 4] 3))
    have hgW := gbel hgB (bel1 w3 (.cells #[.int .i64 (-1), .int .i64 4] 3))
    have hzW : w3.heap.size < (w3.alloc (.cells #[.int .i64 (-1), .int .i64 4] 3)).heap.size := by simp
    have hal : Calls Tryd.prog 138 #[.pointer (some ⟨g, 0, none⟩), .slice (some ⟨w3.heap.size, 0, none⟩) 2 2] _ _ := among_any _ B g _ (some ⟨w3.heap.size, 0, none⟩) 2 [-1, 4] hcW (by omega) (rd_ints [-1, 4] hK (by decide)) (fun b hb => by injection hb with hb; subst hb; show g + 1 ≤ w3.heap.size; omega) (by decide) (by decide)
    have HAL := Lib.hid hal
    clear hK hal
    generalize w3.alloc (.cells #[.int .i64 (-1), .int .i64 4] 3) = W at *
    ((with_reducible refine (HAL.out).mono ?_); rintro e w4 ⟨k4, ⟨i, hi, hki⟩, rfl, hc4, hg4⟩)
    have hb4 : Hid (-1 ≤ k4 ∧ k4 ≤ 4) := by
      show _ ∧ _
      rw [hki]
      have hi2 : i < 2 := hi
      obtain rfl | rfl : i = 0 ∨ i = 1 := by omega
      · decide
      · decide
    clear hki
    go_wp2
    go_ret2
    exact ⟨k4, s, rfl, hs, hb4.out.1, hb4.out.2, hc4.more (by omega), gbtr hgW hg4⟩
/-- A drawn strip. -/
def NewKT (w : World) (m : Nat) (e : Ending) (w' : World) : Prop := ∃ (k : Int) (s : ByteArray), e = .returned (.tuple #[.int .i64 k, .string s]) ∧ s.size ≤ m ∧ -1 ≤ k ∧ k ≤ 4 ∧ Below w.heap.size w w'
set_option maxHeartbeats 1600000 in
theorem drawStripValue_any (A : Option Addr) (c : Nat) (bs : List Int) (w : World) (h : RdY w A c bs) :
    Calls Tryd.prog 105 #[.slice A bs.length c] w (NewKT w 200) := by
  go_enter Tryd.func105, Tryd.ntmps105
  go_wp2_with fail
  have hb0 := bel1 w (.cells #[.slice A bs.length c, .int .i64 0, .int .u64 0] 101)
  have hc0 := (Cur.new h).below (bel1 _ (.cells #[.int .i64 4, .int .i64 5, .int .i64 6, .int .i64 8] 3))
  have hbW := gtr hb0 (bel1 _ (.cells #[.int .i64 4, .int .i64 5, .int .i64 6, .int .i64 8] 3))
  have hK : Blk ((w.alloc (.cells #[.slice A bs.length c, .int .i64 0, .int .u64 0] 101)).alloc (.cells #[.int .i64 4, .int .i64 5, .int .i64 6, .int .i64 8] 3)) (w.heap.size + 1) 3 (ints [4, 5, 6, 8]).toArray := by
    show Blk _ _ _ #[.int .i64 4, .int .i64 5, .int .i64 6, .int .i64 8]
    exact Blk.new_at _ _ _ (by simp)
  have hal : Calls Tryd.prog 138 #[.pointer (some ⟨w.heap.size, 0, none⟩), .slice (some ⟨w.heap.size + 1, 0, none⟩) 4 4] _ _ := among_any _ w.heap.size w.heap.size _ (some ⟨w.heap.size + 1, 0, none⟩) 4 [4, 5, 6, 8] hc0 (by decide) (rd_ints [4, 5, 6, 8] hK (by decide)) (fun b hb => by injection hb with hb; subst hb; show w.heap.size + 1 ≤ w.heap.size + 1; omega) (by decide) (by decide)
  have HAL := Lib.hid hal
  have HBW := Lib.hid hbW
  clear hK hal hb0 hbW hc0 h
  generalize (w.alloc (.cells #[.slice A bs.length c, .int .i64 0, .int .u64 0] 101)).alloc (.cells #[.int .i64 4, .int .i64 5, .int .i64 6, .int .i64 8] 3) = W at *
  ((with_reducible refine (HAL.out).mono ?_); rintro e w1 ⟨m, ⟨i, hi, hmi⟩, rfl, hc1, hg1⟩)
  have hm : 0 ≤ m ∧ m ≤ 100 := by
    rw [hmi]
    have hi2 : i < 4 := hi
    obtain rfl | rfl | rfl | rfl : i = 0 ∨ i = 1 ∨ i = 2 ∨ i = 3 := by omega
    all_goals decide
  clear hmi
  obtain ⟨hm1, hm2⟩ := hm
  have hg1' : Below w.heap.size w w1 := HBW.out.trans ((hg1.mono (HBW.out.size)).below (Nat.le_refl _))
  go_wp2_with fail
  ((with_reducible refine (drawOne_any _ _ _ _ m hc1 (by omega) hm1 hm2).mono ?_); rintro e w2 ⟨k, s, rfl, hs, hk0, hk1, hc2, hg2⟩)
  have hg2' : Below w.heap.size w w2 := hg1'.trans ((hg2.mono hg1'.size).below (Nat.le_refl _))
  go_wp2
  go_ret2
  exact ⟨k, s, rfl, hs, hk0, hk1, hg2'⟩
end Go.Proofs.YtadljglcbieifaaDoor
