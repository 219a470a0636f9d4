/- l18DrawRow by contract. Conditions: none. -/
import Derived.Test.YtmdnbmdkommmkaaCur
import Derived.Test.YtmdnbmdkommmkaaSl
namespace Go.Proofs.Ytmdnbmdkommmkaa
open Go.RowKit
set_option linter.unusedVariables false

theorem Cur.ownb {w w' : World} {B g a : Nat} {row : Option Nat} (h : Cur w B g a) (hb : w.grownBy w' row) (hr : ∀ y, row = some y → g < y) : Cur w' B g a := by
  obtain ⟨A, c, bs, k, seed, h1, h2, h3, r⟩ := h
  have hlt := h1.lt
  refine ⟨A, c, bs, k, seed, h1.grown hb (fun e => by have := hr g e.symm; omega), ?_, h3, r⟩
  exact ⟨h2.1, h2.2.1, h2.2.2.1, fun j hj => by
    obtain ⟨b, o, hA, hbB, hc⟩ := h2.2.2.2 j hj
    refine ⟨b, o, hA, hbB, fun i u hi => ?_⟩
    rw [← hc i u hi]
    unfold World.cell?
    rw [hb.block b (by omega) (fun e => by have := hr b e.symm; omega)]⟩

/-- A drawn row of numbers. -/
def DrawnR (w : World) (B g a n : Nat) (e : Ending) (w' : World) : Prop :=
  ∃ (A : Option Addr) (c : Nat) (xs : List Int), e = .returned (.slice A xs.length c) ∧ OwnI w' w.heap.size (.slice A xs.length c) xs ∧ Gb w.heap.size g w w' ∧ Cur w' B g a ∧ xs.length ≤ n

set_option maxRecDepth 100000 in
set_option maxHeartbeats 1600000 in
theorem drawRow_any (w : World) (B g a : Nat) (h : Cur w B g a) (ha : a ≤ 100000000) :
    Calls Try.prog 43 #[.pointer (some ⟨g, 0, none⟩)] w (DrawnR w B g (a + 2000) 310) := by
  have hlt0 := h.lt
  go_enter Try.func43, Try.ntmps43
  go_wp2_with fail
  have he := Own.empty w 3 3 w.heap.size (Nat.le_refl _)
  have hg0 : Gb w.heap.size g w (w.alloc (.cells #[] 3)) := Gb.of_below ((Below.refl _ _).alloc (Nat.le_refl _) _)
  have hc0 := h.below (bel1 w (.cells #[] 3))
  generalize w.alloc (.cells #[] 3) = W at *
  have hzW := hg0.size
  ((with_reducible refine (pickI _ _ _ _ _ hc0 (by omega) (by decide) (by decide)).mono ?_); rintro e w1 ⟨x, ⟨hx0, hx1⟩, rfl, hc1, hg1⟩)
  have he1 := he.gb hlt0 hg1
  have hz1 := hg1.size
  obtain ⟨p, rfl⟩ := Int.eq_ofNat_of_zero_le hx0
  go_wp2_with fail
  ((with_reducible refine (pickI _ _ _ _ _ hc1 (by omega) (by decide) (by decide)).mono ?_); rintro e w2 ⟨y, ⟨hy0, hy1⟩, rfl, hc2, hg2⟩)
  have he2 := he1.gb hlt0 hg2
  have hz2 := hg2.size
  obtain ⟨q, rfl⟩ := Int.eq_ofNat_of_zero_le hy0
  go_wp2_with fail
  ((with_reducible refine (pickI _ _ _ _ _ hc2 (by omega) (by omega) (by omega)).mono ?_); rintro e w3 ⟨z, ⟨hz0', hz1'⟩, rfl, hc3, hg3⟩)
  have he3 := he2.gb hlt0 hg3
  have hz3 := hg3.size
  obtain ⟨r, rfl⟩ := Int.eq_ofNat_of_zero_le hz0'
  go_wp2_with fail
  ((with_reducible refine (oneI _ _ _ _ _ hc3 (by omega) (by decide) (by decide)).mono ?_); rintro e w4 ⟨b, rfl, hc4, hg4⟩)
  have he4 := he3.gb hlt0 hg4
  have hz4 := hg4.size
  have hgA : Gb w.heap.size g w w4 := (((hg0.trans (hg1.mono (by omega))).trans (hg2.mono (by omega))).trans (hg3.mono (by omega))).trans (hg4.mono (by omega))
  clear he he1 he2 he3 hc0 hc1 hc2 hc3 hg0 hg1 hg2 hg3 hg4
  cases b
  · go_wp2
    have hN1 : (0 : Int) ≤ ((p:Int)+(r:Int)) := by omega
    have hN2 : ((p:Int)+(r:Int)) ≤ (303 : Int) := by omega
    go_loopw [3, 7, 8] (fun o i x wr => ∃ (k : Nat) (A : Option Addr) (c : Nat) (xs : List Int), i = .int .i64 k ∧ (k : Int) ≤ ((p:Int)+(r:Int)) ∧ o = .slice A k c ∧ Hid (xs.length = k) ∧ Own wr w.heap.size 3 (.slice A k c) (ints xs) ∧ Gb w.heap.size g w wr ∧ Cur wr B g (a + 20 + 4 * k)) (fun _ i _ _ => (((p:Int)+(r:Int))).toNat - (intOf i).toNat)
    case atStart => exact ⟨0, _, _, [], rfl, hN1, rfl, Lib.hid rfl, he4, hgA, hc4.more (by omega)⟩
    case round =>
      clear he4 hgA hc4 hz1 hz2 hz3 hz4 hzW
      obtain ⟨k, A, c, xs, rfl, hk, rfl, HL, ho, hg, hc⟩ := hrel
      have hzr := hg.size
      by_cases hlt : (k : Int) < ((p:Int)+(r:Int))
      · have hgl := hc.lt
        go_wp2_with fail
        ((with_reducible refine (pickI _ _ _ _ _ hc (by omega) (by decide) (by decide)).mono ?_); rintro e w1 ⟨v, ⟨hv0, hv1⟩, rfl, hc1, hg1⟩)
        have ho1 := ho.gb hlt0 hg1
        have hz1 := hg1.size
        clear ho hc
        by_cases hps : (p : Int) + (1 + (q : Int)) ≤ (k : Int)
        · obtain ⟨g4, rfl, hkk, hg41, hg42, hcell, hfr⟩ := ho1.at (by rw [ints_len, HL.out]; omega)
          clear hkk
          have hck := hcell (k - (1 + q)) _ (ints_at xs (k - (1 + q)) (by have := HL.out; omega))
          have e1 : ((k : Int) - (1 + (q : Int))).toNat = k - (1 + q) := by omega
          have e2 : (0 : Int) ≤ (k : Int) - (1 + (q : Int)) := by omega
          have e3 : (k : Int) - (1 + (q : Int)) < (k : Int) := by omega
          have e4 : (1 : Int) + (q : Int) ≤ (k : Int) := by omega
          clear hcell hfr
          generalize gi xs (k - (1 + q)) = v2 at *
          go_wp2_with fail
          ((with_reducible refine (oneI _ _ _ _ _ hc1 (by omega) (by decide) (by decide)).mono ?_); rintro e w2 ⟨b, rfl, hc2, hg2⟩)
          have ho2 := ho1.gb hlt0 hg2
          have hz2 := hg2.size
          have hgl2 := hc2.lt
          cases b
          · go_wp2_with (at_builtin; refine append_int_at rfl _ _ rfl w.heap.size _ xs rfl (own_ints.2 (ho2.below ((Below.refl _ _).alloc (Nat.le_refl _) _))) _ (v2) rfl (Blk.new _ _ _) (by have := HL.out; omega) (by simp; omega) ?_; intro A3 c3 w3 ho3 hb3 hg3 hp3; rw [HL.out] at ho3; rw [HL.out])
            have HO : Hid (Own w3 w.heap.size 3 (.slice A3 (k + 1) c3) (ints (xs ++ [v2]))) := by show Own _ _ _ _ _; exact own_ints.1 ho3
            have hc3 : Cur w3 B g (a + 20 + 4 * k + 4) := ((hc2.below (bel1 _ _)).ownb hg3 (fun y hy => by have := (ho2.lt y hy).1; omega)).more (by omega)
            have hg4 : Gb w.heap.size g w w3 := ((hg.trans (hg1.mono (by omega))).trans (hg2.mono (by omega))).trans (Gb.of_below ((((Below.refl w.heap.size w2).alloc (by omega) _)).trans hb3))
            go_roundw
            case rel => exact ⟨k + 1, _, _, xs ++ [v2], by go_num, by omega, rfl, Lib.hid (by rw [List.length_append, HL.out]; rfl), HO.out, hg4, hc3.more (by omega)⟩
            case measure => simp [intOf]; omega
          · go_wp2_with (at_builtin; refine append_int_at rfl _ _ rfl w.heap.size _ xs rfl (own_ints.2 (ho2.below ((Below.refl _ _).alloc (Nat.le_refl _) _))) _ (9) rfl (Blk.new _ _ _) (by have := HL.out; omega) (by simp; omega) ?_; intro A3 c3 w3 ho3 hb3 hg3 hp3; rw [HL.out] at ho3; rw [HL.out])
            have HO : Hid (Own w3 w.heap.size 3 (.slice A3 (k + 1) c3) (ints (xs ++ [9]))) := by show Own _ _ _ _ _; exact own_ints.1 ho3
            have hc3 : Cur w3 B g (a + 20 + 4 * k + 4) := ((hc2.below (bel1 _ _)).ownb hg3 (fun y hy => by have := (ho2.lt y hy).1; omega)).more (by omega)
            have hg4 : Gb w.heap.size g w w3 := ((hg.trans (hg1.mono (by omega))).trans (hg2.mono (by omega))).trans (Gb.of_below ((((Below.refl w.heap.size w2).alloc (by omega) _)).trans hb3))
            go_roundw
            case rel => exact ⟨k + 1, _, _, xs ++ [9], by go_num, by omega, rfl, Lib.hid (by rw [List.length_append, HL.out]; rfl), HO.out, hg4, hc3.more (by omega)⟩
            case measure => simp [intOf]; omega
        · go_wp2_with fail
          ((with_reducible refine (oneI _ _ _ _ _ hc1 (by omega) (by decide) (by decide)).mono ?_); rintro e w2 ⟨b, rfl, hc2, hg2⟩)
          have ho2 := ho1.gb hlt0 hg2
          have hz2 := hg2.size
          have hgl2 := hc2.lt
          cases b
          · go_wp2_with (at_builtin; refine append_int_at rfl _ _ rfl w.heap.size _ xs rfl (own_ints.2 (ho2.below ((Below.refl _ _).alloc (Nat.le_refl _) _))) _ (v) rfl (Blk.new _ _ _) (by have := HL.out; omega) (by simp; omega) ?_; intro A3 c3 w3 ho3 hb3 hg3 hp3; rw [HL.out] at ho3; rw [HL.out])
            have HO : Hid (Own w3 w.heap.size 3 (.slice A3 (k + 1) c3) (ints (xs ++ [v]))) := by show Own _ _ _ _ _; exact own_ints.1 ho3
            have hc3 : Cur w3 B g (a + 20 + 4 * k + 4) := ((hc2.below (bel1 _ _)).ownb hg3 (fun y hy => by have := (ho2.lt y hy).1; omega)).more (by omega)
            have hg4 : Gb w.heap.size g w w3 := ((hg.trans (hg1.mono (by omega))).trans (hg2.mono (by omega))).trans (Gb.of_below ((((Below.refl w.heap.size w2).alloc (by omega) _)).trans hb3))
            go_roundw
            case rel => exact ⟨k + 1, _, _, xs ++ [v], by go_num, by omega, rfl, Lib.hid (by rw [List.length_append, HL.out]; rfl), HO.out, hg4, hc3.more (by omega)⟩
            case measure => simp [intOf]; omega
          · go_wp2_with (at_builtin; refine append_int_at rfl _ _ rfl w.heap.size _ xs rfl (own_ints.2 (ho2.below ((Below.refl _ _).alloc (Nat.le_refl _) _))) _ (9) rfl (Blk.new _ _ _) (by have := HL.out; omega) (by simp; omega) ?_; intro A3 c3 w3 ho3 hb3 hg3 hp3; rw [HL.out] at ho3; rw [HL.out])
            have HO : Hid (Own w3 w.heap.size 3 (.slice A3 (k + 1) c3) (ints (xs ++ [9]))) := by show Own _ _ _ _ _; exact own_ints.1 ho3
            have hc3 : Cur w3 B g (a + 20 + 4 * k + 4) := ((hc2.below (bel1 _ _)).ownb hg3 (fun y hy => by have := (ho2.lt y hy).1; omega)).more (by omega)
            have hg4 : Gb w.heap.size g w w3 := ((hg.trans (hg1.mono (by omega))).trans (hg2.mono (by omega))).trans (Gb.of_below ((((Below.refl w.heap.size w2).alloc (by omega) _)).trans hb3))
            go_roundw
            case rel => exact ⟨k + 1, _, _, xs ++ [9], by go_num, by omega, rfl, Lib.hid (by rw [List.length_append, HL.out]; rfl), HO.out, hg4, hc3.more (by omega)⟩
            case measure => simp [intOf]; omega
      · have hkN : (k : Int) = ((p:Int)+(r:Int)) := by omega
        have HE := Lib.hid hkN; clear hkN
        go_wp2
        go_ret
        refine ⟨A, c, xs, by rw [HL.out]; rfl, ?_, hg, hc.more (by have := HE.out; omega), by have := HE.out; have := HL.out; omega⟩
        rw [HL.out]
        exact own_ints.2 ho
  · go_wp2_with fail
    ((with_reducible refine (pickI _ _ _ _ _ hc4 (by omega) (by decide) (by decide)).mono ?_); rintro e w5 ⟨t, ⟨ht0, ht1⟩, rfl, hc5, hg5⟩)
    have he5 := he4.gb hlt0 hg5
    have hz5 := hg5.size
    have hgB := hgA.trans (hg5.mono (by omega))
    clear he4 hgA hc4 hg5
    have he4 := he5
    have hgA := hgB
    have hc4 := hc5
    clear he5 hgB hc5
    go_wp2
    have hN1 : (0 : Int) ≤ (300+t) := by omega
    have hN2 : (300+t) ≤ (303 : Int) := by omega
    go_loopw [3, 7, 8] (fun o i x wr => ∃ (k : Nat) (A : Option Addr) (c : Nat) (xs : List Int), i = .int .i64 k ∧ (k : Int) ≤ (300+t) ∧ o = .slice A k c ∧ Hid (xs.length = k) ∧ Own wr w.heap.size 3 (.slice A k c) (ints xs) ∧ Gb w.heap.size g w wr ∧ Cur wr B g (a + 20 + 4 * k)) (fun _ i _ _ => ((300+t)).toNat - (intOf i).toNat)
    case atStart => exact ⟨0, _, _, [], rfl, hN1, rfl, Lib.hid rfl, he4, hgA, hc4.more (by omega)⟩
    case round =>
      clear he4 hgA hc4 hz1 hz2 hz3 hz4 hzW
      obtain ⟨k, A, c, xs, rfl, hk, rfl, HL, ho, hg, hc⟩ := hrel
      have hzr := hg.size
      by_cases hlt : (k : Int) < (300+t)
      · have hgl := hc.lt
        go_wp2_with fail
        ((with_reducible refine (pickI _ _ _ _ _ hc (by omega) (by decide) (by decide)).mono ?_); rintro e w1 ⟨v, ⟨hv0, hv1⟩, rfl, hc1, hg1⟩)
        have ho1 := ho.gb hlt0 hg1
        have hz1 := hg1.size
        clear ho hc
        by_cases hps : (p : Int) + (1 + (q : Int)) ≤ (k : Int)
        · obtain ⟨g4, rfl, hkk, hg41, hg42, hcell, hfr⟩ := ho1.at (by rw [ints_len, HL.out]; omega)
          clear hkk
          have hck := hcell (k - (1 + q)) _ (ints_at xs (k - (1 + q)) (by have := HL.out; omega))
          have e1 : ((k : Int) - (1 + (q : Int))).toNat = k - (1 + q) := by omega
          have e2 : (0 : Int) ≤ (k : Int) - (1 + (q : Int)) := by omega
          have e3 : (k : Int) - (1 + (q : Int)) < (k : Int) := by omega
          have e4 : (1 : Int) + (q : Int) ≤ (k : Int) := by omega
          clear hcell hfr
          generalize gi xs (k - (1 + q)) = v2 at *
          go_wp2_with fail
          ((with_reducible refine (oneI _ _ _ _ _ hc1 (by omega) (by decide) (by decide)).mono ?_); rintro e w2 ⟨b, rfl, hc2, hg2⟩)
          have ho2 := ho1.gb hlt0 hg2
          have hz2 := hg2.size
          have hgl2 := hc2.lt
          cases b
          · go_wp2_with (at_builtin; refine append_int_at rfl _ _ rfl w.heap.size _ xs rfl (own_ints.2 (ho2.below ((Below.refl _ _).alloc (Nat.le_refl _) _))) _ (v2) rfl (Blk.new _ _ _) (by have := HL.out; omega) (by simp; omega) ?_; intro A3 c3 w3 ho3 hb3 hg3 hp3; rw [HL.out] at ho3; rw [HL.out])
            have HO : Hid (Own w3 w.heap.size 3 (.slice A3 (k + 1) c3) (ints (xs ++ [v2]))) := by show Own _ _ _ _ _; exact own_ints.1 ho3
            have hc3 : Cur w3 B g (a + 20 + 4 * k + 4) := ((hc2.below (bel1 _ _)).ownb hg3 (fun y hy => by have := (ho2.lt y hy).1; omega)).more (by omega)
            have hg4 : Gb w.heap.size g w w3 := ((hg.trans (hg1.mono (by omega))).trans (hg2.mono (by omega))).trans (Gb.of_below ((((Below.refl w.heap.size w2).alloc (by omega) _)).trans hb3))
            go_roundw
            case rel => exact ⟨k + 1, _, _, xs ++ [v2], by go_num, by omega, rfl, Lib.hid (by rw [List.length_append, HL.out]; rfl), HO.out, hg4, hc3.more (by omega)⟩
            case measure => simp [intOf]; omega
          · go_wp2_with (at_builtin; refine append_int_at rfl _ _ rfl w.heap.size _ xs rfl (own_ints.2 (ho2.below ((Below.refl _ _).alloc (Nat.le_refl _) _))) _ (9) rfl (Blk.new _ _ _) (by have := HL.out; omega) (by simp; omega) ?_; intro A3 c3 w3 ho3 hb3 hg3 hp3; rw [HL.out] at ho3; rw [HL.out])
            have HO : Hid (Own w3 w.heap.size 3 (.slice A3 (k + 1) c3) (ints (xs ++ [9]))) := by show Own _ _ _ _ _; exact own_ints.1 ho3
            have hc3 : Cur w3 B g (a + 20 + 4 * k + 4) := ((hc2.below (bel1 _ _)).ownb hg3 (fun y hy => by have := (ho2.lt y hy).1; omega)).more (by omega)
            have hg4 : Gb w.heap.size g w w3 := ((hg.trans (hg1.mono (by omega))).trans (hg2.mono (by omega))).trans (Gb.of_below ((((Below.refl w.heap.size w2).alloc (by omega) _)).trans hb3))
            go_roundw
            case rel => exact ⟨k + 1, _, _, xs ++ [9], by go_num, by omega, rfl, Lib.hid (by rw [List.length_append, HL.out]; rfl), HO.out, hg4, hc3.more (by omega)⟩
            case measure => simp [intOf]; omega
        · go_wp2_with fail
          ((with_reducible refine (oneI _ _ _ _ _ hc1 (by omega) (by decide) (by decide)).mono ?_); rintro e w2 ⟨b, rfl, hc2, hg2⟩)
          have ho2 := ho1.gb hlt0 hg2
          have hz2 := hg2.size
          have hgl2 := hc2.lt
          cases b
          · go_wp2_with (at_builtin; refine append_int_at rfl _ _ rfl w.heap.size _ xs rfl (own_ints.2 (ho2.below ((Below.refl _ _).alloc (Nat.le_refl _) _))) _ (v) rfl (Blk.new _ _ _) (by have := HL.out; omega) (by simp; omega) ?_; intro A3 c3 w3 ho3 hb3 hg3 hp3; rw [HL.out] at ho3; rw [HL.out])
            have HO : Hid (Own w3 w.heap.size 3 (.slice A3 (k + 1) c3) (ints (xs ++ [v]))) := by show Own _ _ _ _ _; exact own_ints.1 ho3
            have hc3 : Cur w3 B g (a + 20 + 4 * k + 4) := ((hc2.below (bel1 _ _)).ownb hg3 (fun y hy => by have := (ho2.lt y hy).1; omega)).more (by omega)
            have hg4 : Gb w.heap.size g w w3 := ((hg.trans (hg1.mono (by omega))).trans (hg2.mono (by omega))).trans (Gb.of_below ((((Below.refl w.heap.size w2).alloc (by omega) _)).trans hb3))
            go_roundw
            case rel => exact ⟨k + 1, _, _, xs ++ [v], by go_num, by omega, rfl, Lib.hid (by rw [List.length_append, HL.out]; rfl), HO.out, hg4, hc3.more (by omega)⟩
            case measure => simp [intOf]; omega
          · go_wp2_with (at_builtin; refine append_int_at rfl _ _ rfl w.heap.size _ xs rfl (own_ints.2 (ho2.below ((Below.refl _ _).alloc (Nat.le_refl _) _))) _ (9) rfl (Blk.new _ _ _) (by have := HL.out; omega) (by simp; omega) ?_; intro A3 c3 w3 ho3 hb3 hg3 hp3; rw [HL.out] at ho3; rw [HL.out])
            have HO : Hid (Own w3 w.heap.size 3 (.slice A3 (k + 1) c3) (ints (xs ++ [9]))) := by show Own _ _ _ _ _; exact own_ints.1 ho3
            have hc3 : Cur w3 B g (a + 20 + 4 * k + 4) := ((hc2.below (bel1 _ _)).ownb hg3 (fun y hy => by have := (ho2.lt y hy).1; omega)).more (by omega)
            have hg4 : Gb w.heap.size g w w3 := ((hg.trans (hg1.mono (by omega))).trans (hg2.mono (by omega))).trans (Gb.of_below ((((Below.refl w.heap.size w2).alloc (by omega) _)).trans hb3))
            go_roundw
            case rel => exact ⟨k + 1, _, _, xs ++ [9], by go_num, by omega, rfl, Lib.hid (by rw [List.length_append, HL.out]; rfl), HO.out, hg4, hc3.more (by omega)⟩
            case measure => simp [intOf]; omega
      · have hkN : (k : Int) = (300+t) := by omega
        have HE := Lib.hid hkN; clear hkN
        go_wp2
        go_ret
        refine ⟨A, c, xs, by rw [HL.out]; rfl, ?_, hg, hc.more (by have := HE.out; omega), by have := HE.out; have := HL.out; omega⟩
        rw [HL.out]
        exact own_ints.2 ho
end Go.Proofs.Ytmdnbmdkommmkaa
