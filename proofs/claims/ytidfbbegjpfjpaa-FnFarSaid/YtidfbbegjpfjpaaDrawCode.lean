/- l17DrawCode by contract. Conditions: none. -/
import Derived.Test.YtidfbbegjpfjpaaDrawPer
namespace Go.Proofs.Ytidfbbegjpfjpaa
open Go.RowKit
set_option linter.unusedVariables false

def kL : List (List Int) := [[7, 7], [3, 3, 3], [0, 7], [1, 3, 7], [1, 5, 6], [3, 3], [0, 1, 3, 7], [7], [1, 6], [4, 4, 4], [3], [0, 0, 0, 7], [3, 5, 6], [6], [1, 2, 5, 4]]
def knA (n : Nat) : Array Value := #[.slice (some ⟨n, 0, none⟩) 2 2, .slice (some ⟨n + 1, 0, none⟩) 3 3, .slice (some ⟨n + 1 + 1, 0, none⟩) 2 2, .slice (some ⟨n + 1 + 1 + 1, 0, none⟩) 3 3, .slice (some ⟨n + 1 + 1 + 1 + 1, 0, none⟩) 3 3, .slice (some ⟨n + 1 + 1 + 1 + 1 + 1, 0, none⟩) 2 2, .slice (some ⟨n + 1 + 1 + 1 + 1 + 1 + 1, 0, none⟩) 4 4, .slice (some ⟨n + 1 + 1 + 1 + 1 + 1 + 1 + 1, 0, none⟩) 1 1, .slice (some ⟨n + 1 + 1 + 1 + 1 + 1 + 1 + 1 + 1, 0, none⟩) 2 2, .slice (some ⟨n + 1 + 1 + 1 + 1 + 1 + 1 + 1 + 1 + 1, 0, none⟩) 3 3, .slice (some ⟨n + 1 + 1 + 1 + 1 + 1 + 1 + 1 + 1 + 1 + 1, 0, none⟩) 1 1, .slice (some ⟨n + 1 + 1 + 1 + 1 + 1 + 1 + 1 + 1 + 1 + 1 + 1, 0, none⟩) 4 4, .slice (some ⟨n + 1 + 1 + 1 + 1 + 1 + 1 + 1 + 1 + 1 + 1 + 1 + 1, 0, none⟩) 3 3, .slice (some ⟨n + 1 + 1 + 1 + 1 + 1 + 1 + 1 + 1 + 1 + 1 + 1 + 1 + 1, 0, none⟩) 1 1, .slice (some ⟨n + 1 + 1 + 1 + 1 + 1 + 1 + 1 + 1 + 1 + 1 + 1 + 1 + 1 + 1, 0, none⟩) 4 4]
def addL (w : World) (K : List (List Int)) : World := K.foldl (fun w xs => w.alloc (.cells (ints xs).toArray 3)) w
def kw (w : World) : World := ((addL w kL).alloc (.cells (knA w.heap.size) 37)).alloc (.cells #[] 3)

theorem addL_facts (K : List (List Int)) : ∀ w : World, (addL w K).heap.size = w.heap.size + K.length ∧ Below w.heap.size w (addL w K) ∧ ∀ (i : Nat) xs, K[i]? = some xs → Blk (addL w K) (w.heap.size + i) 3 (ints xs).toArray := by
  induction K with
  | nil => intro w; exact ⟨rfl, Below.refl _ _, fun i xs h => by simp at h⟩
  | cons x K ih =>
    intro w
    obtain ⟨i1, i2, i3⟩ := ih (w.alloc (.cells (ints x).toArray 3))
    have hs : (w.alloc (.cells (ints x).toArray 3)).heap.size = w.heap.size + 1 := by simp
    have hb := bel1 w (.cells (ints x).toArray 3)
    have e : addL w (x :: K) = addL (w.alloc (.cells (ints x).toArray 3)) K := rfl
    rw [e]
    refine ⟨by rw [i1, hs, List.length_cons]; omega, gtr hb i2, fun i xs hi => ?_⟩
    cases i with
    | zero =>
      simp at hi
      subst hi
      exact (Blk.new w 3 (ints x).toArray).below i2 (by omega)
    | succ i =>
      have := i3 i xs (by simpa using hi)
      rw [hs] at this
      rw [show w.heap.size + (i + 1) = w.heap.size + 1 + i by omega]
      exact this
theorem knA_at (n x : Nat) (h : x < 15) : ∃ xs, kL[x]? = some xs ∧ xs.length ≤ 4 ∧ (knA n)[x]? = some (.slice (some ⟨n + x, 0, none⟩) xs.length xs.length) := by
  have : x = 0 ∨ x = 1 ∨ x = 2 ∨ x = 3 ∨ x = 4 ∨ x = 5 ∨ x = 6 ∨ x = 7 ∨ x = 8 ∨ x = 9 ∨ x = 10 ∨ x = 11 ∨ x = 12 ∨ x = 13 ∨ x = 14 := by omega
  rcases this with rfl | rfl | rfl | rfl | rfl | rfl | rfl | rfl | rfl | rfl | rfl | rfl | rfl | rfl | rfl <;> exact ⟨_, rfl, by decide, rfl⟩
theorem kw_facts (w : World) : (kw w).heap.size = w.heap.size + 17 ∧ Below w.heap.size w (kw w) ∧ Blk (kw w) (w.heap.size + 15) 37 (knA w.heap.size) ∧ Blk (kw w) (w.heap.size + 16) 3 #[] ∧ ∀ (i : Nat) xs, kL[i]? = some xs → Blk (kw w) (w.heap.size + i) 3 (ints xs).toArray := by
  obtain ⟨a1, a2, a3⟩ := addL_facts kL w
  have hl : kL.length = 15 := rfl
  rw [hl] at a1
  have k1 := Blk.new (addL w kL) 37 (knA w.heap.size)
  rw [a1] at k1
  have s1 : ((addL w kL).alloc (.cells (knA w.heap.size) 37)).heap.size = w.heap.size + 16 := by simp [a1]
  have k2 := Blk.new ((addL w kL).alloc (.cells (knA w.heap.size) 37)) 3 #[]
  rw [s1] at k2
  refine ⟨by unfold kw; simp [a1], ?_, k1.alloc _, k2, fun i xs hi => ((a3 i xs hi).alloc _).alloc _⟩
  exact (a2.alloc (by omega) _).alloc (by omega) _
theorem Own.none (w : World) (base : Nat) (E : TypeId) : Own w base E (.slice none 0 0) [] := ⟨by simp, Or.inl ⟨rfl, rfl⟩⟩

set_option maxRecDepth 100000 in
set_option maxHeartbeats 3200000 in
theorem drawCode_any (w : World) (B g a : Nat) (h : Cur w B g a) (ha : a ≤ 100000000) :
    Calls Try.prog 49 #[.pointer (some ⟨g, 0, none⟩)] w (DrawnR w B g (a + 100) 20) := by
  have hlt0 := h.lt
  have hge0 := h.ge
  obtain ⟨z1, z2, z3, z4, z5⟩ := kw_facts w
  have hcK : Cur (kw w) B g a := h.below z2
  have hgK : Gb w.heap.size g w (kw w) := Gb.of_below z2
  have Z3 := Lib.hid z3; have Z4 := Lib.hid z4; have Z5 := Lib.hid z5; have Z1 := Lib.hid z1; clear z1 z2 z3 z4 z5
  go_enter Try.func49, Try.ntmps49
  go_wp2_with fail
  refine (pickI (kw w) _ _ _ 15 hcK (by omega) (by decide) (by decide)).mono ?_; rintro e w1 ⟨x, ⟨hx0, hx1⟩, rfl, hc1, hg1⟩
  obtain ⟨x, rfl⟩ := Int.eq_ofNat_of_zero_le hx0
  obtain ⟨ks, hk1, hk2, hk3⟩ := knA_at w.heap.size x (by omega)
  have hK1 : Blk w1 (w.heap.size + 15) 37 (knA w.heap.size) := Z3.out.gb hg1 (by have := Z1.out; omega) (by omega)
  have hE1 : Blk w1 (w.heap.size + 16) 3 #[] := Z4.out.gb hg1 (by have := Z1.out; omega) (by omega)
  have hS1 : Blk w1 (w.heap.size + x) 3 (ints ks).toArray := (Z5.out x ks hk1).gb hg1 (by have := Z1.out; omega) (by omega)
  have hz1 : w.heap.size + 17 ≤ w1.heap.size := by have := hg1.size; have := Z1.out; omega
  have hgA : Gb w.heap.size g w w1 := hgK.trans (hg1.mono (by have := Z1.out; omega))
  clear Z3 Z4 Z5 hcK hgK hg1 Z1
  obtain ⟨Kb, hKb⟩ : ∃ Kb, Kb = w.heap.size + 1 + 1 + 1 + 1 + 1 + 1 + 1 + 1 + 1 + 1 + 1 + 1 + 1 + 1 + 1 := ⟨_, rfl⟩
  obtain ⟨Eb, hEb⟩ : ∃ Eb, Eb = Kb + 1 := ⟨_, rfl⟩
  rw [← hKb]
  rw [← hEb]
  have hKb' : w.heap.size + 15 = Kb := by omega
  have hEb' : w.heap.size + 16 = Eb := by omega
  rw [hKb'] at hK1
  rw [hEb'] at hE1
  have hEl : w.heap.size ≤ Eb := by omega
  clear hKb hEb hKb' hEb'
  have hq : w1.cell? ⟨Kb, x, none⟩ = some (.slice (some ⟨w.heap.size + x, 0, none⟩) ks.length ks.length) := (hK1.cell x).trans hk3
  have hxI : (x : Int) < 15 := hx1
  have hxN : x < 15 := by omega
  have hOE : Own w1 w.heap.size 3 (.slice (some ⟨Eb, 0, none⟩) 0 0) [] := Own.of_blk hE1 hEl
  have hRS : Rd w1 (w.heap.size + x + 1) (some ⟨w.heap.size + x, 0, none⟩) ks.length (ints ks) := by
    have := Rd.lit3 hS1 (Nat.lt_succ_self _) (by rw [ints_len]; omega)
    rwa [ints_len] at this
  clear hK1 hE1 hS1 hk3 hk1
  have hE3 : Hid (([] : List Value).length + (ints ks).length = ks.length) := by show _ = _; rw [ints_len]; simp
  go_wp2_with (at_builtin; refine wpList_append_rd rfl _ _ 37 3 (.int .i64 0) 8 rfl Try.underlying37 infoInt rfl (by omega) w.heap.size _ [] rfl hOE (w.heap.size + x + 1) _ _ _ (ints ks) rfl (by rw [ints_len]) hRS (fun u hu => by simp [ints] at hu; obtain ⟨y, -, rfl⟩ := hu; rfl) (by rw [hE3.out]; omega) (by omega) ?_; intro A c w2 ho2 hb2 hgr2; rw [hE3.out, List.nil_append] at ho2; rw [hE3.out])
  have hc2 : Cur w2 B g (a + 2) := hc1.ownb hgr2 (fun y hy => by have := (hOE.lt y hy).1; omega)
  have hg2 : Gb w.heap.size g w w2 := hgA.trans (Gb.of_below hb2)
  have hz2 := hg2.size
  clear hgr2 hb2 hOE hRS hq hc1 hgA
  go_wp2_with fail
  ((with_reducible refine (oneI _ _ _ _ _ hc2 (by omega) (by decide) (by decide)).mono ?_); rintro e w3 ⟨b, rfl, hc3, hg3⟩)
  have hz3 := hg3.size
  have ho3 := ho2.gb hlt0 hg3
  have hgB := hg2.trans (hg3.mono (by omega))
  clear hc2 ho2 hg2 hg3
  cases b
  · obtain ⟨xs, hxs⟩ : ∃ xs, xs = ks := ⟨_, rfl⟩
    rw [← hxs] at ho3 hk2 ⊢
    have hxl : xs.length ≤ 5 := by omega
    clear hxs
    go_wp2_with fail
    ((with_reducible refine (oneI _ _ _ _ _ hc3 (by omega) (by decide) (by decide)).mono ?_); rintro e wa ⟨ba, rfl, hca, hga⟩)
    have hzw := Gb.size hgB
    have hza := hga.size
    have hoa := Own.gb ho3 hlt0 hga
    have hgA := Gb.trans hgB (hga.mono (by omega))
    clear hc3 ho3 hgB hga
    cases ba
    · go_wp2
      go_ret
      exact ⟨A, c, xs, rfl, own_ints.2 hoa, hgA, hca.more (by omega), by omega⟩
    · go_wp2_with fail
      ((with_reducible refine (pickI _ _ _ _ _ hca (by omega) (by decide) (by decide)).mono ?_); rintro e wb ⟨s, ⟨hs0, hs1⟩, rfl, hcb, hgb⟩)
      have hzb := hgb.size
      have hob := hoa.gb hlt0 hgb
      have hgB := hgA.trans (hgb.mono (by omega))
      clear hca hoa hgA hgb
      have hs : s = 0 ∨ s = 1 ∨ s = 2 := by omega
      rcases hs with rfl | rfl | rfl
      · go_wp2_with fail
        have hL6 := Blk.new wb 3 #[.int .i64 0, .int .i64 8, .int .i64 (-1)]
        have ho6 := hob.below (bel1 wb (.cells #[.int .i64 0, .int .i64 8, .int .i64 (-1)] 3))
        have hg6 := hgB.trans (Gb.of_below ((bel1 wb (.cells #[.int .i64 0, .int .i64 8, .int .i64 (-1)] 3)).mono (show w.heap.size ≤ wb.heap.size by omega)))
        have hc6 := hcb.below (bel1 wb (.cells #[.int .i64 0, .int .i64 8, .int .i64 (-1)] 3))
        have hz6 : (wb.alloc (.cells #[.int .i64 0, .int .i64 8, .int .i64 (-1)] 3)).heap.size = wb.heap.size + 1 := by simp
        generalize wb.alloc (.cells #[.int .i64 0, .int .i64 8, .int .i64 (-1)] 3) = V6 at *
        ((with_reducible refine (among_lit _ _ _ _ hc6 (by omega) _ _ _ _ hL6 (by omega)).mono ?_); rintro e w7 ⟨v, _, rfl, hc7, hg7⟩)
        have hz7 := hg7.size
        have ho7 := ho6.gb hlt0 hg7
        have hg8 := hg6.trans (hg7.mono (by omega))
        go_wp2_with (at_builtin; refine append_int_at rfl _ _ rfl w.heap.size _ xs rfl (own_ints.2 (ho7.below (bel1 _ _))) _ v rfl (Blk.new _ _ _) (by omega) (by simp; omega) ?_; intro A8 c8 w8 ho8 hb8 hgr8 hpp8)
        have HO8 : Hid (OwnI w8 w.heap.size (.slice A8 (xs ++ [v]).length c8) (xs ++ [v])) := by
          show OwnI _ _ _ _
          have e : (xs ++ [v]).length = xs.length + 1 := by simp
          rw [e]; exact ho8
        have hc8 := (hc7.below (bel1 w7 (.cells #[.int .i64 v] 3))).ownb hgr8 (fun y hy => by have := (ho7.lt y hy).1; omega)
        have hg9 : Gb w.heap.size g w w8 := hg8.trans (Gb.of_below (((Below.refl w.heap.size w7).alloc (by omega) _).trans hb8))
        have hln : Hid (xs.length + 1 = (xs ++ [v]).length) := by show _ = _; simp
        clear ho8 hpp8 hgr8
        go_wp2
        go_ret
        exact ⟨A8, c8, xs ++ [v], by rw [hln.out]; rfl, HO8.out, hg9, hc8.more (by omega), by rw [← hln.out]; omega⟩
      · go_wp2
        go_ret
        exact ⟨none, 0, [], rfl, own_ints.2 (Own.none _ _ _), hgB, hcb.more (by omega), by simp⟩
      · go_wp2
        go_loopw [4] (fun o wr => ∃ (A : Option Addr) (c : Nat) (xs : List Int), o = .slice A xs.length c ∧ xs.length ≤ 8 ∧ Own wr w.heap.size 3 (.slice A xs.length c) (ints xs) ∧ Gb w.heap.size g w wr ∧ Cur wr B g (a + 40 + 4 * xs.length)) (fun o _ => 9 - (match o with | .slice _ n _ => n | _ => 0))
        case atStart => exact ⟨A, c, xs, rfl, by omega, hob, hgB, hcb.more (by omega)⟩
        case round =>
          clear hob hgB hcb hzb hza hzw hxl
          obtain ⟨A, c, xs, rfl, hxl, ho, hg, hc⟩ := hrel
          have hzr := hg.size
          have hgl := hc.lt
          go_wp2_with fail
          ((with_reducible refine (pickI _ _ _ _ _ hc (by omega) (by decide) (by decide)).mono ?_); rintro e w1 ⟨y, ⟨hy0, hy1⟩, rfl, hc1, hg1⟩)
          have hz1 := hg1.size
          have ho1 := ho.gb hlt0 hg1
          have hgC := hg.trans (hg1.mono (by omega))
          clear ho hg hc hg1
          by_cases hlt : (xs.length : Int) < 6 + y
          · go_wp2_with fail
            ((with_reducible refine (pickI _ _ _ _ _ hc1 (by omega) (by decide) (by decide)).mono ?_); rintro e w2 ⟨u, ⟨hu0, hu1⟩, rfl, hc2, hg2⟩)
            have hz2 := hg2.size
            have ho2 := ho1.gb hlt0 hg2
            have hgD := hgC.trans (hg2.mono (by omega))
            clear ho1 hgC hc1 hg2
            go_wp2_with (at_builtin; refine append_int_at rfl _ _ rfl w.heap.size _ xs rfl (own_ints.2 (ho2.below (bel1 _ _))) _ (1 + u) rfl (Blk.new _ _ _) (by omega) (by simp; omega) ?_; intro A8 c8 w8 ho8 hb8 hgr8 hpp8)
            have HO8 : Hid (Own w8 w.heap.size 3 (.slice A8 (xs ++ [1 + u]).length c8) (ints (xs ++ [1 + u]))) := by
              show Own _ _ _ _ _
              have e : (xs ++ [1 + u]).length = xs.length + 1 := by simp
              rw [e]; exact own_ints.1 ho8
            have hc8 := (hc2.below (bel1 w2 (.cells #[.int .i64 (1 + u)] 3))).ownb hgr8 (fun y hy => by have := (ho2.lt y hy).1; omega)
            have hg9 : Gb w.heap.size g w w8 := hgD.trans (Gb.of_below (((Below.refl w.heap.size w2).alloc (by omega) _).trans hb8))
            have hln : Hid (xs.length + 1 = (xs ++ [1 + u]).length) := by show _ = _; simp
            clear ho8 hpp8 hgr8
            go_roundw
            case rel => exact ⟨A8, c8, xs ++ [1 + u], by rw [hln.out], by rw [← hln.out]; omega, HO8.out, hg9, hc8.more (by rw [← hln.out]; omega)⟩
            case measure => simp; omega
          · go_wp2
            go_ret
            exact ⟨A, c, xs, rfl, own_ints.2 ho1, hgC, hc1.more (by omega), by omega⟩
  · clear ho3
    go_wp2_with fail
    have he := Own.empty w3 3 3 w.heap.size (by omega)
    have hgC : Gb w.heap.size g w (w3.alloc (.cells #[] 3)) := hgB.trans (Gb.of_below ((bel1 w3 (.cells #[] 3)).mono (show w.heap.size ≤ w3.heap.size by omega)))
    have hc4 := hc3.below (bel1 w3 (.cells #[] 3))
    have hz4 : (w3.alloc (.cells #[] 3)).heap.size = w3.heap.size + 1 := by simp
    generalize w3.alloc (.cells #[] 3) = V4 at *
    ((with_reducible refine (pickI _ _ _ _ _ hc4 (by omega) (by decide) (by decide)).mono ?_); rintro e w5 ⟨y, ⟨hy0, hy1⟩, rfl, hc5, hg5⟩)
    have hz5 := hg5.size
    have he5 := he.gb hlt0 hg5
    have hgD := hgC.trans (hg5.mono (by omega))
    clear he hc4 hgC hg5 hgB hc3 hk2
    obtain ⟨y, rfl⟩ := Int.eq_ofNat_of_zero_le hy0
    go_wp2
    go_loopw [4, 5] (fun o i wr => ∃ (j : Nat) (A : Option Addr) (c : Nat) (xs : List Int), i = .int .i64 j ∧ j + xs.length ≤ 4 ∧ o = .slice A xs.length c ∧ Own wr w.heap.size 3 (.slice A xs.length c) (ints xs) ∧ Gb w.heap.size g w wr ∧ Cur wr B g (a + 10 + 2 * xs.length)) (fun _ i _ => (intOf i).toNat)
    case atStart => exact ⟨1 + y, _, _, [], by go_num, by simp; omega, rfl, he5, hgD, hc5.more (by first | (simp; done) | (simp; omega))⟩
    case round =>
      clear he5 hgD hc5 hz5 hz4 hz3 hz2 hz1
      obtain ⟨j, A, c, xs, rfl, hjl, rfl, ho, hg, hc⟩ := hrel
      have hzr := hg.size
      have hgl := hc.lt
      by_cases hj : 0 < j
      · have hjI : (0 : Int) < (j : Int) := by omega
        go_wp2_with fail
        ((with_reducible refine (pickI _ _ _ _ _ hc (by omega) (by decide) (by decide)).mono ?_); rintro e w6 ⟨u, ⟨hu0, hu1⟩, rfl, hc6, hg6⟩)
        have hz6 := hg6.size
        have ho6 := ho.gb hlt0 hg6
        have hgE := hg.trans (hg6.mono (by omega))
        clear ho hg hc hg6
        go_wp2_with (at_builtin; refine append_int_at rfl _ _ rfl w.heap.size _ xs rfl (own_ints.2 (ho6.below (bel1 _ _))) _ u rfl (Blk.new _ _ _) (by omega) (by simp; omega) ?_; intro A8 c8 w8 ho8 hb8 hgr8 hpp8)
        have HO8 : Hid (Own w8 w.heap.size 3 (.slice A8 (xs ++ [u]).length c8) (ints (xs ++ [u]))) := by
          show Own _ _ _ _ _
          have e : (xs ++ [u]).length = xs.length + 1 := by simp
          rw [e]; exact own_ints.1 ho8
        have hc8 := (hc6.below (bel1 w6 (.cells #[.int .i64 u] 3))).ownb hgr8 (fun y hy => by have := (ho6.lt y hy).1; omega)
        have hg9 : Gb w.heap.size g w w8 := hgE.trans (Gb.of_below (((Below.refl w.heap.size w6).alloc (by omega) _).trans hb8))
        have hln : Hid (xs.length + 1 = (xs ++ [u]).length) := by show _ = _; simp
        clear ho8 hpp8 hgr8
        go_roundw
        case rel => exact ⟨j - 1, A8, c8, xs ++ [u], congrArg (Value.int .i64) (by omega), by rw [← hln.out]; omega, by rw [hln.out], HO8.out, hg9, hc8.more (by rw [← hln.out]; omega)⟩
        case measure => simp [intOf]; omega
      · have hj0 : ¬ (0 : Int) < (j : Int) := by omega
        have hxl : xs.length ≤ 5 := by omega
        have HJ : Hid (¬ 0 < j) := hj
        clear hj
        go_wp2_with fail
        ((with_reducible refine (oneI _ _ _ _ _ hc (by omega) (by decide) (by decide)).mono ?_); rintro e wa ⟨ba, rfl, hca, hga⟩)
        have hzw := Gb.size hg
        have hza := hga.size
        have hoa := Own.gb ho hlt0 hga
        have hgA := Gb.trans hg (hga.mono (by omega))
        clear hc ho hg hga
        cases ba
        · go_wp2
          go_ret
          exact ⟨A, c, xs, rfl, own_ints.2 hoa, hgA, hca.more (by omega), by omega⟩
        · go_wp2_with fail
          ((with_reducible refine (pickI _ _ _ _ _ hca (by omega) (by decide) (by decide)).mono ?_); rintro e wb ⟨s, ⟨hs0, hs1⟩, rfl, hcb, hgb⟩)
          have hzb := hgb.size
          have hob := hoa.gb hlt0 hgb
          have hgB := hgA.trans (hgb.mono (by omega))
          clear hca hoa hgA hgb
          have hs : s = 0 ∨ s = 1 ∨ s = 2 := by omega
          rcases hs with rfl | rfl | rfl
          · go_wp2_with fail
            have hL6 := Blk.new wb 3 #[.int .i64 0, .int .i64 8, .int .i64 (-1)]
            have ho6 := hob.below (bel1 wb (.cells #[.int .i64 0, .int .i64 8, .int .i64 (-1)] 3))
            have hg6 := hgB.trans (Gb.of_below ((bel1 wb (.cells #[.int .i64 0, .int .i64 8, .int .i64 (-1)] 3)).mono (show w.heap.size ≤ wb.heap.size by omega)))
            have hc6 := hcb.below (bel1 wb (.cells #[.int .i64 0, .int .i64 8, .int .i64 (-1)] 3))
            have hz6 : (wb.alloc (.cells #[.int .i64 0, .int .i64 8, .int .i64 (-1)] 3)).heap.size = wb.heap.size + 1 := by simp
            generalize wb.alloc (.cells #[.int .i64 0, .int .i64 8, .int .i64 (-1)] 3) = V6 at *
            ((with_reducible refine (among_lit _ _ _ _ hc6 (by omega) _ _ _ _ hL6 (by omega)).mono ?_); rintro e w7 ⟨v, _, rfl, hc7, hg7⟩)
            have hz7 := hg7.size
            have ho7 := ho6.gb hlt0 hg7
            have hg8 := hg6.trans (hg7.mono (by omega))
            go_wp2_with (at_builtin; refine append_int_at rfl _ _ rfl w.heap.size _ xs rfl (own_ints.2 (ho7.below (bel1 _ _))) _ v rfl (Blk.new _ _ _) (by omega) (by simp; omega) ?_; intro A8 c8 w8 ho8 hb8 hgr8 hpp8)
            have HO8 : Hid (OwnI w8 w.heap.size (.slice A8 (xs ++ [v]).length c8) (xs ++ [v])) := by
              show OwnI _ _ _ _
              have e : (xs ++ [v]).length = xs.length + 1 := by simp
              rw [e]; exact ho8
            have hc8 := (hc7.below (bel1 w7 (.cells #[.int .i64 v] 3))).ownb hgr8 (fun y hy => by have := (ho7.lt y hy).1; omega)
            have hg9 : Gb w.heap.size g w w8 := hg8.trans (Gb.of_below (((Below.refl w.heap.size w7).alloc (by omega) _).trans hb8))
            have hln : Hid (xs.length + 1 = (xs ++ [v]).length) := by show _ = _; simp
            clear ho8 hpp8 hgr8
            go_wp2
            go_ret
            exact ⟨A8, c8, xs ++ [v], by rw [hln.out]; rfl, HO8.out, hg9, hc8.more (by omega), by rw [← hln.out]; omega⟩
          · go_wp2
            go_ret
            exact ⟨none, 0, [], rfl, own_ints.2 (Own.none _ _ _), hgB, hcb.more (by omega), by simp⟩
          · go_wp2
            go_loopw [4] (fun o wr => ∃ (A : Option Addr) (c : Nat) (xs : List Int), o = .slice A xs.length c ∧ xs.length ≤ 8 ∧ Own wr w.heap.size 3 (.slice A xs.length c) (ints xs) ∧ Gb w.heap.size g w wr ∧ Cur wr B g (a + 40 + 4 * xs.length)) (fun o _ => 9 - (match o with | .slice _ n _ => n | _ => 0))
            case atStart => exact ⟨A, c, xs, rfl, by omega, hob, hgB, hcb.more (by omega)⟩
            case round =>
              clear hob hgB hcb hzb hza hzw hxl
              obtain ⟨A, c, xs, rfl, hxl, ho, hg, hc⟩ := hrel
              have hzr := hg.size
              have hgl := hc.lt
              go_wp2_with fail
              ((with_reducible refine (pickI _ _ _ _ _ hc (by omega) (by decide) (by decide)).mono ?_); rintro e w1 ⟨y, ⟨hy0, hy1⟩, rfl, hc1, hg1⟩)
              have hz1 := hg1.size
              have ho1 := ho.gb hlt0 hg1
              have hgC := hg.trans (hg1.mono (by omega))
              clear ho hg hc hg1
              by_cases hlt : (xs.length : Int) < 6 + y
              · go_wp2_with fail
                ((with_reducible refine (pickI _ _ _ _ _ hc1 (by omega) (by decide) (by decide)).mono ?_); rintro e w2 ⟨u, ⟨hu0, hu1⟩, rfl, hc2, hg2⟩)
                have hz2 := hg2.size
                have ho2 := ho1.gb hlt0 hg2
                have hgD := hgC.trans (hg2.mono (by omega))
                clear ho1 hgC hc1 hg2
                go_wp2_with (at_builtin; refine append_int_at rfl _ _ rfl w.heap.size _ xs rfl (own_ints.2 (ho2.below (bel1 _ _))) _ (1 + u) rfl (Blk.new _ _ _) (by omega) (by simp; omega) ?_; intro A8 c8 w8 ho8 hb8 hgr8 hpp8)
                have HO8 : Hid (Own w8 w.heap.size 3 (.slice A8 (xs ++ [1 + u]).length c8) (ints (xs ++ [1 + u]))) := by
                  show Own _ _ _ _ _
                  have e : (xs ++ [1 + u]).length = xs.length + 1 := by simp
                  rw [e]; exact own_ints.1 ho8
                have hc8 := (hc2.below (bel1 w2 (.cells #[.int .i64 (1 + u)] 3))).ownb hgr8 (fun y hy => by have := (ho2.lt y hy).1; omega)
                have hg9 : Gb w.heap.size g w w8 := hgD.trans (Gb.of_below (((Below.refl w.heap.size w2).alloc (by omega) _).trans hb8))
                have hln : Hid (xs.length + 1 = (xs ++ [1 + u]).length) := by show _ = _; simp
                clear ho8 hpp8 hgr8
                go_roundw
                case rel => exact ⟨A8, c8, xs ++ [1 + u], by rw [hln.out], by rw [← hln.out]; omega, HO8.out, hg9, hc8.more (by rw [← hln.out]; omega)⟩
                case measure => simp; omega
              · go_wp2
                go_ret
                exact ⟨A, c, xs, rfl, own_ints.2 ho1, hgC, hc1.more (by omega), by omega⟩
end Go.Proofs.Ytidfbbegjpfjpaa
