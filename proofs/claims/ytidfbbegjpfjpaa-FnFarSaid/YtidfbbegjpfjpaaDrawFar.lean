/- DrawFarValue: contract. Conditions: none. -/
import Derived.Test.YtidfbbegjpfjpaaDrawPro
import Derived.Test.YtidfbbegjpfjpaaBig
import Derived.Deep.RegionHeld3
namespace Go.Proofs.Ytidfbbegjpfjpaa
open Go.RowKit
set_option linter.unusedVariables false

/-- A new row of numbers, a period and a number. -/
def NewRPZ (w : World) (n : Nat) (e : Ending) (w' : World) : Prop :=
  ∃ (A : Option Addr) (c : Nat) (xs : List Int) (p l z : Int), e = .returned (.tuple #[.slice A xs.length c, .agg #[.int .i64 p, .int .i64 l], .int .i64 z]) ∧ OwnI w' w.heap.size (.slice A xs.length c) xs ∧ Below w.heap.size w w' ∧ xs.length ≤ n
theorem among_take6 (w : World) (B g a : Nat) (h : Cur w B g a) (ha : a ≤ 800000000) (x y z u v s : Int) (n L : Nat) (hL : Blk w L 3 #[.int .i64 x, .int .i64 y, .int .i64 z, .int .i64 u, .int .i64 v, .int .i64 s]) (hg : g < L) (hn1 : 1 ≤ n) (hn2 : n ≤ 6) :
    Calls Try.prog 32 #[.pointer (some ⟨g, 0, none⟩), .slice (some ⟨L, 0, none⟩) n 6] w (Drawn w B g (a + 2) fun _ => True) := by
  have hr : RdI w w.heap.size (some ⟨L, 0, none⟩) 6 [x, y, z, u, v, s] := Rd.lit3 (cs := [.int .i64 x, .int .i64 y, .int .i64 z, .int .i64 u, .int .i64 v, .int .i64 s]) hL hL.lt (by simp)
  have hr2 : RdI w w.heap.size (some ⟨L, 0, none⟩) 6 ([x, y, z, u, v, s].take n) := by
    have := Rd.take hr n
    unfold RdI
    rw [show ints ([x, y, z, u, v, s].take n) = (ints [x, y, z, u, v, s]).take n by simp [ints, List.map_take]]
    exact this
  have hlen : ([x, y, z, u, v, s].take n).length = n := by rw [List.length_take]; simp; omega
  have hh := among_any w B g a (some ⟨L, 0, none⟩) 6 ([x, y, z, u, v, s].take n) h (by omega) hr2 (fun b hb => by injection hb with hb; subst hb; show g + 1 ≤ L; omega) (by omega) (by omega)
  rw [hlen] at hh
  refine hh.mono ?_
  rintro e w' ⟨k, _, r⟩
  exact ⟨k, trivial, r⟩

set_option maxRecDepth 100000 in
set_option maxHeartbeats 1600000 in
theorem drawFar_any (A : Option Addr) (c : Nat) (bs : List Int) (w : World) (h : RdY w A c bs) :
    Calls Try.prog 13 #[.slice A bs.length c] w (NewRPZ w 20) := by
  go_enter Try.func13, Try.ntmps13
  go_wp2_with fail
  have hR := Blk.new w 39 #[.int .i64 0, .int .i64 0]
  have hb0 := bel1 w (.cells #[.int .i64 0, .int .i64 0] 39)
  have h1 := h.below hb0
  have hz0 : (w.alloc (.cells #[.int .i64 0, .int .i64 0] 39)).heap.size = w.heap.size + 1 := by simp
  generalize w.alloc (.cells #[.int .i64 0, .int .i64 0] 39) = V at *
  have hc := Cur.new h1
  have hbV := bel1 V (.cells #[.slice A bs.length c, .int .i64 0, .int .u64 0] 68)
  have hR1 := hR.alloc (.cells #[.slice A bs.length c, .int .i64 0, .int .u64 0] 68)
  generalize V.alloc (.cells #[.slice A bs.length c, .int .i64 0, .int .u64 0] 68) = W at *
  have hzV := hbV.size
  have hltW := hc.lt
  rw [hz0] at hc hltW
  ((with_reducible refine (drawProved_any _ _ _ _ hc (by omega)).mono ?_); rintro e w1 ⟨A1, c1, xs, p, l, rfl, ho, hg, hc1, hl⟩)
  have hz1 := hg.size
  have hb1 : Below w.heap.size w w1 := (hb0.trans (hbV.mono (by omega))).trans ((hg.mono (B' := w.heap.size) (by omega)).below (by omega))
  have hR2 := hR1.gb hg (by omega) (by omega)
  have ho1 := own_ints.1 ho
  clear ho hg hc hR hR1 hb0 hbV
  have hP := Blk.new w1 39 #[.int .i64 p, .int .i64 l]
  have hbP := bel1 w1 (.cells #[.int .i64 p, .int .i64 l] 39)
  have hzP : (w1.alloc (.cells #[.int .i64 p, .int .i64 l] 39)).heap.size = w1.heap.size + 1 := by simp
  go_wp2
  generalize w1.alloc (.cells #[.int .i64 p, .int .i64 l] 39) = W1 at *
  obtain ⟨PB, hPB⟩ : ∃ PB, PB = w1.heap.size := ⟨_, rfl⟩
  rw [← hPB] at hP hzP ⊢
  have hR3 := hR2.below hbP (by omega)
  have ho2 := ho1.below hbP
  have hc2 := hc1.below hbP
  have hb2 := hb1.trans (hbP.mono (by omega))
  have hnP : ¬ PB = w.heap.size + 1 := by omega
  have HS : Hid (∀ w', Gb W1.drew.heap.size (w.heap.size + 1) W1.drew w' → Blk w' PB 39 #[.int .i64 p, .int .i64 l] ∧ Blk w' w.heap.size 39 #[.int .i64 0, .int .i64 0] ∧ Own w' W.heap.size 3 (.slice A1 xs.length c1) (ints xs) ∧ Below w.heap.size w w') := fun w' hg =>
    ⟨Blk.gb (show Blk W1.drew _ _ _ from hP) hg (by show PB < W1.heap.size; omega) (by omega), Blk.gb (show Blk W1.drew _ _ _ from hR3) hg (by show w.heap.size < W1.heap.size; omega) (by omega),
      Own.gb (show Own W1.drew _ _ _ _ from ho2) (by omega) hg, (hb2.drew).trans ((hg.mono (by show w.heap.size ≤ W1.heap.size; omega)).below (by omega))⟩
  have hcd : Cur W1.drew (w.heap.size + 1) (w.heap.size + 1) 300 := hc2
  have q0 : W1.cell? ⟨PB, 0, none⟩ = some (.int .i64 p) := hP.cell 0
  have q1 : W1.cell? ⟨PB, 1, none⟩ = some (.int .i64 l) := hP.cell 1
  have hsz : w.heap.size + 1 < W1.heap.size := by omega
  have hWP : W.heap.size ≤ PB := by omega
  have hnw1 : ¬ PB = w.heap.size := by omega
  have hnw2 : ¬ w.heap.size = PB := by omega
  clear hP hR3 ho2 hb2 hR2 hb1 ho1 hc1 hc2 hPB
  have tok1 : True := trivial; have tok2 : True := trivial; have tok3 : True := trivial
  go_region_held3 (fun w' => w'.cell? ⟨PB, 0, none⟩ = some (.int .i64 p) ∧ w'.cell? ⟨PB, 1, none⟩ = some (.int .i64 l)) (go_keep)
    (first
      | (have _t := tok1; go_at_call 33; refine (pickI _ _ _ _ _ hcd (by omega) (by decide) (by decide)).mono ?_; rintro e wa ⟨x, ⟨hx0, hx1⟩, rfl, hca, hga⟩; have m0 := (HS.out _ hga).1.cell 0; have m1 := (HS.out _ hga).1.cell 1; clear tok1)
      | (have _t := tok2; go_at_call 33; refine (pickI _ _ _ _ _ hca (by omega) (by decide) (by decide)).mono ?_; rintro e wb ⟨y, ⟨hy0, hy1⟩, rfl, hcb, hgb0⟩; have hgb := gbtr hga hgb0; have n0 := (HS.out _ hgb).1.cell 0; have n1 := (HS.out _ hgb).1.cell 1; clear tok2)
      | (have _t := tok3; go_at_call 33; refine (pickI _ _ _ _ _ (by first | exact hcb | exact hcb.below (bel1 _ _)) (by omega) (by decide) (by decide)).mono ?_; rintro e wc ⟨z, ⟨hz0', hz1'⟩, rfl, hcc, hgc0⟩; obtain ⟨zn, rfl⟩ := Int.eq_ofNat_of_zero_le hz0'; have hsb := hgb.size; (first | (have hgc := gbtr hgb hgc0) | (have hgc := gbtr (gbel hgb (bel1 _ _)) hgc0; have hLc := Blk.gb (Blk.new wb 3 _) hgc0 (by simp) (by have : W1.heap.size ≤ wb.heap.size := hsb; omega))); have o0 := (HS.out _ hgc).1.cell 0; have o1 := (HS.out _ hgc).1.cell 1; obtain ⟨M, hM, hM1, hM2⟩ : ∃ M : Nat, IntKind.i64.wrap (4 + (zn : Int)) = (M : Int) ∧ 4 ≤ M ∧ M ≤ 6 := ⟨4 + zn, by rw [IntKind.wrap_i64]; omega, by omega, by omega⟩; have hMi : (0 : Int) ≤ (M : Int) := (by omega); have hMj : (M : Int) ≤ 6 := (by omega); clear tok3)
      | (go_at_call 32; refine (among_take6 _ _ _ _ (by first | exact hcc | exact hcc.below (bel1 _ _)) (by omega) _ _ _ _ _ _ _ _ (by first | exact hLc | exact Blk.new _ _ _) (by have : W1.heap.size ≤ wb.heap.size := hsb; have : W1.heap.size ≤ wc.heap.size := hgc.size; first | omega | (simp; omega)) (by omega) (by omega)).mono ?_; rintro e wd ⟨v, _, rfl, hcd', hgd0⟩; (first | (have hgd := gbtr hgc hgd0) | (have hgd := gbtr (gbel hgc (bel1 _ _)) hgd0)); obtain ⟨u1, u2, u3, u4⟩ := HS.out _ hgd; have v0 := u1.cell 0; have v1 := u1.cell 1; have r0 := u2.cell 0; have r1 := u2.cell 1; have rf0 := u2.frozen 0; have rf1 := u2.frozen 1))
  all_goals
    have HO := Lib.hid u3; have HB := Lib.hid u4
    have e0 : wd.cell? ⟨w.heap.size, 0, none⟩ = some (.int .i64 0) := u2.cell 0
    have e1 : wd.cell? ⟨w.heap.size, 1, none⟩ = some (.int .i64 0) := u2.cell 1
    clear m0 m1 n0 n1 o0 o1 v0 v1 r0 r1 rf0 rf1 u1 u2 u3 u4
    go_wp2
    refine bodyPost_ret (v := .tuple #[.slice A1 xs.length c1, .agg #[.int .i64 p, .int .i64 l], .int .i64 v]) (by simp [results, Try.results13, go_sem, e0, e1]) rfl ⟨A1, c1, xs, p, l, v, rfl, ?_, ?_, hl⟩
    · exact own_ints.2 ((Own.sets2 HO.out (k := w.heap.size) (by omega) _ _ _ _).le (by omega))
    · exact (HB.out.setCell (by simp) _).setCell (by simp) _
end Go.Proofs.Ytidfbbegjpfjpaa
