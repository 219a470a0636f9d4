/- DrawLeastPeriod, DrawRepeats, rBig, rCut: contracts. Conditions: none. -/
import Derived.Test.YtmdnbmdkommmkaaDrawPer
import Derived.Test.YtmdnbmdkommmkaaPeriod2
import Derived.Deep.RegionHeld3
import Derived.RegionTactic
namespace Go.Proofs.Ytmdnbmdkommmkaa
open Go.RowKit
set_option linter.unusedVariables false

/-- The slice reads as these bytes. -/
def RdY (w : World) (A : Option Addr) (c : Nat) (bs : List Int) : Prop := Rd w w.heap.size A c (byts bs) ∧ ∀ b ∈ bs, 0 ≤ b ∧ b ≤ 255
theorem RdY.below {w w' : World} {A : Option Addr} {c : Nat} {bs : List Int} (h : RdY w A c bs) (hb : Below w.heap.size w w') : RdY w' A c bs :=
  ⟨(h.1.below hb (Nat.le_refl _)).more hb.size, h.2⟩
theorem byts_len (bs : List Int) : (byts bs).length = bs.length := by simp [byts]
/-- A cursor newly boxed. -/
theorem Cur.new {w : World} {A : Option Addr} {c : Nat} {bs : List Int} (h : RdY w A c bs) :
    Cur (w.alloc (.cells #[.slice A bs.length c, .int .i64 0, .int .u64 0] 68)) w.heap.size w.heap.size 0 :=
  ⟨A, c, bs, 0, 0, Blk.new _ _ _, h.1.below (bel1 _ _) (Nat.le_refl _), Nat.le_refl _, Nat.le_refl _, h.2, by omega, by omega⟩

/-- A new row of numbers. -/
def NewR (w : World) (n : Nat) (e : Ending) (w' : World) : Prop :=
  ∃ (A : Option Addr) (c : Nat) (xs : List Int), e = .returned (.slice A xs.length c) ∧ OwnI w' w.heap.size (.slice A xs.length c) xs ∧ Below w.heap.size w w' ∧ xs.length ≤ n

set_option maxHeartbeats 800000 in
theorem drawLeast_any (A : Option Addr) (c : Nat) (bs : List Int) (w : World) (h : RdY w A c bs) :
    Calls Try.prog 10 #[.slice A bs.length c] w (NewR w 310) := by
  go_enter Try.func10, Try.ntmps10
  go_wp2_with fail
  have hc := Cur.new h
  have hb := bel1 w (.cells #[.slice A bs.length c, .int .i64 0, .int .u64 0] 68)
  generalize w.alloc (.cells #[.slice A bs.length c, .int .i64 0, .int .u64 0] 68) = W at *
  have hz := hb.size
  ((with_reducible refine (drawRow_any _ _ _ _ hc (by omega)).mono ?_); rintro e w1 ⟨A1, c1, xs, rfl, ho, hg, hc1, hl⟩)
  have hb1 : Below w.heap.size w w1 := hb.trans ((hg.mono hz).below (Nat.le_refl _))
  have HO : Hid (OwnI w1 w.heap.size (.slice A1 xs.length c1) xs) := own_ints.2 ((own_ints.1 ho).le hz)
  clear ho
  go_wp2
  go_ret
  exact ⟨A1, c1, xs, rfl, HO.out, hb1, hl⟩

/-- A new row of numbers and a period. -/
def NewRP (w : World) (n : Nat) (e : Ending) (w' : World) : Prop :=
  ∃ (A : Option Addr) (c : Nat) (xs : List Int) (p l : Int), e = .returned (.tuple #[.slice A xs.length c, .agg #[.int .i64 p, .int .i64 l]]) ∧ OwnI w' w.heap.size (.slice A xs.length c) xs ∧ Below w.heap.size w w' ∧ xs.length ≤ n

theorem perV_form (o : Option (Nat × Nat)) : ∃ (p l : Int) (b : Bool), perV o = .tuple #[.agg #[.int .i64 p, .int .i64 l], .bool b] := by
  cases o
  · exact ⟨_, _, _, rfl⟩
  · exact ⟨_, _, _, rfl⟩

theorem Own.setsx {w : World} {base k : Nat} {E : TypeId} {v : Value} {cs : List Value} (h : Own w base E v cs) (hk : v.ownBlock ≠ some k) (i j : Nat) (a b : Value) : Own ((w.setCell ⟨k, i, none⟩ a).setCell ⟨k, j, none⟩ b) base E v cs :=
  (h.far ⟨k, i, none⟩ a hk).far ⟨k, j, none⟩ b hk
theorem Own.sets2 {w : World} {base k : Nat} {E : TypeId} {v : Value} {cs : List Value} (h : Own w base E v cs) (hk : k < base) (i j : Nat) (a b : Value) : Own ((w.setCell ⟨k, i, none⟩ a).setCell ⟨k, j, none⟩ b) base E v cs :=
  h.setsx (fun e => by have := (h.lt k e).1; omega) i j a b

set_option maxRecDepth 100000 in
set_option maxHeartbeats 1600000 in
theorem drawRep_any (A : Option Addr) (c : Nat) (bs : List Int) (w : World) (h : RdY w A c bs) :
    Calls Try.prog 15 #[.slice A bs.length c] w (NewRP w 310) := by
  go_enter Try.func15, Try.ntmps15
  go_wp2_with fail
  have hR := Blk.new w 27 #[.int .i64 0, .int .i64 0]
  have hb0 := bel1 w (.cells #[.int .i64 0, .int .i64 0] 27)
  have h1 := h.below hb0
  have hz0 : (w.alloc (.cells #[.int .i64 0, .int .i64 0] 27)).heap.size = w.heap.size + 1 := by simp
  generalize w.alloc (.cells #[.int .i64 0, .int .i64 0] 27) = V at *
  rw [← hz0]
  have hc := Cur.new h1
  have hbV := bel1 V (.cells #[.slice A bs.length c, .int .i64 0, .int .u64 0] 68)
  have hR1 := hR.alloc (.cells #[.slice A bs.length c, .int .i64 0, .int .u64 0] 68)
  generalize V.alloc (.cells #[.slice A bs.length c, .int .i64 0, .int .u64 0] 68) = W at *
  have hzV := hbV.size
  have hltW := hc.lt
  ((with_reducible refine (drawRow_any _ _ _ _ hc (by omega)).mono ?_); rintro e w1 ⟨A1, c1, xs, rfl, ho, hg, hc1, hl⟩)
  have hz1 := hg.size
  have hb1 : Below w.heap.size w w1 := (hb0.trans (hbV.mono (by omega))).trans ((hg.mono (B' := w.heap.size) (by omega)).below (by omega))
  have hR2 := hR1.gb hg (by omega) (by omega)
  have hoo := own_ints.1 ho
  clear ho hg hc hR hR1
  obtain ⟨p, l, b, hp⟩ := perV_form (leastPer xs)
  have hLS := leastS_any A1 c1 xs w1 w1.heap.size (Nat.le_refl _) (own_ints.2 hoo |>.rd rfl)
  rw [hp] at hLS
  have HLS := Lib.hid hLS; clear hLS hp
  go_wp2_with fail
  ((with_reducible refine HLS.out.mono ?_); rintro e w2 ⟨rfl, hb2⟩)
  have hz2 := hb2.size
  have ho2 := hoo.below hb2
  have hR3 := hR2.below hb2 (by omega)
  have hc2 := hc1.below hb2
  have hP3 := Blk.new w2 27 #[.int .i64 p, .int .i64 l]
  have hR4 := hR3.alloc (.cells #[.int .i64 p, .int .i64 l] 27)
  have ho3 := ho2.below (bel1 w2 (.cells #[.int .i64 p, .int .i64 l] 27))
  have hc3 := hc2.below (bel1 w2 (.cells #[.int .i64 p, .int .i64 l] 27))
  have hb3 : Below w.heap.size w (w2.alloc (.cells #[.int .i64 p, .int .i64 l] 27)) := (hb1.trans (hb2.mono (by omega))).alloc (by omega) _
  have hz3 : (w2.alloc (.cells #[.int .i64 p, .int .i64 l] 27)).heap.size = w2.heap.size + 1 := by simp
  rw [hz0] at hc3
  have hgP : w.heap.size + 1 < w2.heap.size := by have := hc2.lt; omega
  have hWg : w.heap.size + 1 < W.heap.size := by omega
  have hPne : (Value.slice A1 xs.length c1).ownBlock ≠ some w2.heap.size := fun e => by have := (ho2.lt _ e).2; omega
  clear hoo hR2 hc1 ho2 hR3 hc2 hb1 hb2 hz0
  cases b
  · go_wp2_with fail
    generalize w2.alloc (.cells #[.int .i64 p, .int .i64 l] 27) = W3 at *
    obtain ⟨P6, hP6⟩ : ∃ P6, P6 = w2.heap.size := ⟨_, rfl⟩
    rw [← hP6] at hP3 hz3 hgP hPne ⊢
    clear hP6
    go_wp2_with fail
    ((with_reducible refine (drawPer_any _ _ _ _ hc3 (by omega)).mono ?_); rintro e w4 ⟨p', l', rfl, hg4, hc4⟩)
    have hz4 := hg4.size
    have hP4 := hP3.gb hg4 (by omega) (by omega)
    have hR5 := hR4.gb hg4 (by omega) (by omega)
    have ho4 := ho3.gb hWg hg4
    have hb4 : Below w.heap.size w w4 := hb3.trans ((hg4.mono (by omega)).below (by omega))
    clear hP3 hR4 ho3 hb3 hc3 hc4 hg4
    have q0 : w4.cell? ⟨P6, 0, none⟩ = some (.int .i64 p) := hP4.cell 0
    have q1 : w4.cell? ⟨P6, 1, none⟩ = some (.int .i64 l) := hP4.cell 1
    have qf0 : w4.frozen? ⟨P6, 0, none⟩ = false := hP4.frozen 0
    have qf1 : w4.frozen? ⟨P6, 1, none⟩ = false := hP4.frozen 1
    have hP5 : Blk ((w4.setCell ⟨P6, 0, none⟩ (.int .i64 p')).setCell ⟨P6, 1, none⟩ (.int .i64 l')) P6 27 #[.int .i64 p', .int .i64 l'] := (hP4.set 0 _).set 1 _
    have hR6 := (hR5.far (p := ⟨P6, 0, none⟩) (by show w.heap.size ≠ P6; omega) (.int .i64 p')).far (p := ⟨P6, 1, none⟩) (by show w.heap.size ≠ P6; omega) (.int .i64 l')
    have ho5 := ho4.setsx hPne 0 1 (.int .i64 p') (.int .i64 l')
    have hb5 := (hb4.setCell (p := ⟨P6, 0, none⟩) (by show w.heap.size ≤ P6; omega) (.int .i64 p')).setCell (p := ⟨P6, 1, none⟩) (by show w.heap.size ≤ P6; omega) (.int .i64 l')
    go_wp2
    generalize (w4.setCell ⟨P6, 0, none⟩ (.int .i64 p')).setCell ⟨P6, 1, none⟩ (.int .i64 l') = w5 at *
    clear q0 q1 qf0 qf1 hP4 hR5 ho4 hb4
    have r0 : w5.cell? ⟨w.heap.size, 0, none⟩ = some (.int .i64 0) := Blk.cell hR6 0
    have r1 : w5.cell? ⟨w.heap.size, 1, none⟩ = some (.int .i64 0) := Blk.cell hR6 1
    have rf0 : w5.frozen? ⟨w.heap.size, 0, none⟩ = false := Blk.frozen hR6 0
    have rf1 : w5.frozen? ⟨w.heap.size, 1, none⟩ = false := Blk.frozen hR6 1
    have p0 : w5.cell? ⟨P6, 0, none⟩ = some (.int .i64 (p')) := Blk.cell hP5 0
    have p1 : w5.cell? ⟨P6, 1, none⟩ = some (.int .i64 (l')) := Blk.cell hP5 1
    have hnp1 : ¬ P6 = w.heap.size := by omega
    have hnp2 : ¬ w.heap.size = P6 := by omega
    have HOF := Lib.hid ho5
    have HBF := Lib.hid hb5
    go_wp2
    go_region
    all_goals
      go_wp2
      refine bodyPost_ret (v := .tuple #[.slice A1 xs.length c1, .agg #[.int .i64 (p'), .int .i64 (l')]]) (by simp [results, Try.results15, go_sem, r0, r1]) rfl ⟨A1, c1, xs, p', l', rfl, ?_, ?_, hl⟩
      · exact own_ints.2 (((Own.sets2 (show Own (w5.drew) _ _ _ _ from HOF.out) (k := w.heap.size) (by omega) _ _ _ _)).le (by omega))
      · exact ((Below.drew HBF.out).setCell (by simp) _).setCell (by simp) _
  · go_wp2_with fail
    generalize w2.alloc (.cells #[.int .i64 p, .int .i64 l] 27) = W3 at *
    obtain ⟨P6, hP6⟩ : ∃ P6, P6 = w2.heap.size := ⟨_, rfl⟩
    rw [← hP6] at hP3 hz3 hgP hPne ⊢
    clear hP6
    ((with_reducible refine (oneI _ _ _ _ _ hc3 (by omega) (by decide) (by decide)).mono ?_); rintro e w9 ⟨b2, rfl, hc9, hg9⟩)
    have hz9 := hg9.size
    have hP9 := hP3.gb hg9 (by omega) (by omega)
    have hR9 := hR4.gb hg9 (by omega) (by omega)
    have ho9 := ho3.gb hWg hg9
    have hb9 : Below w.heap.size w w9 := hb3.trans ((hg9.mono (by omega)).below (by omega))
    clear hP3 hR4 ho3 hb3 hc3 hg9
    cases b2
    · have r0 : w9.cell? ⟨w.heap.size, 0, none⟩ = some (.int .i64 0) := Blk.cell hR9 0
      have r1 : w9.cell? ⟨w.heap.size, 1, none⟩ = some (.int .i64 0) := Blk.cell hR9 1
      have rf0 : w9.frozen? ⟨w.heap.size, 0, none⟩ = false := Blk.frozen hR9 0
      have rf1 : w9.frozen? ⟨w.heap.size, 1, none⟩ = false := Blk.frozen hR9 1
      have p0 : w9.cell? ⟨P6, 0, none⟩ = some (.int .i64 (p)) := Blk.cell hP9 0
      have p1 : w9.cell? ⟨P6, 1, none⟩ = some (.int .i64 (l)) := Blk.cell hP9 1
      have hnp1 : ¬ P6 = w.heap.size := by omega
      have hnp2 : ¬ w.heap.size = P6 := by omega
      have HOF := Lib.hid ho9
      have HBF := Lib.hid hb9
      go_wp2
      go_region
      all_goals
        go_wp2
        refine bodyPost_ret (v := .tuple #[.slice A1 xs.length c1, .agg #[.int .i64 (p), .int .i64 (l)]]) (by simp [results, Try.results15, go_sem, r0, r1]) rfl ⟨A1, c1, xs, p, l, rfl, ?_, ?_, hl⟩
        · exact own_ints.2 (((Own.sets2 (show Own (w9.drew) _ _ _ _ from HOF.out) (k := w.heap.size) (by omega) _ _ _ _)).le (by omega))
        · exact ((Below.drew HBF.out).setCell (by simp) _).setCell (by simp) _
    · have hP3 := hP9; have hR4 := hR9; have ho3 := ho9; have hb3 := hb9; have hc3 := hc9
      clear hP9 hR9 ho9 hb9 hc9
      go_wp2_with fail
      ((with_reducible refine (drawPer_any _ _ _ _ hc3 (by omega)).mono ?_); rintro e w4 ⟨p', l', rfl, hg4, hc4⟩)
      have hz4 := hg4.size
      have hP4 := hP3.gb hg4 (by omega) (by omega)
      have hR5 := hR4.gb hg4 (by omega) (by omega)
      have ho4 := ho3.gb hWg hg4
      have hb4 : Below w.heap.size w w4 := hb3.trans ((hg4.mono (by omega)).below (by omega))
      clear hP3 hR4 ho3 hb3 hc3 hc4 hg4
      have q0 : w4.cell? ⟨P6, 0, none⟩ = some (.int .i64 p) := hP4.cell 0
      have q1 : w4.cell? ⟨P6, 1, none⟩ = some (.int .i64 l) := hP4.cell 1
      have qf0 : w4.frozen? ⟨P6, 0, none⟩ = false := hP4.frozen 0
      have qf1 : w4.frozen? ⟨P6, 1, none⟩ = false := hP4.frozen 1
      have hP5 : Blk ((w4.setCell ⟨P6, 0, none⟩ (.int .i64 p')).setCell ⟨P6, 1, none⟩ (.int .i64 l')) P6 27 #[.int .i64 p', .int .i64 l'] := (hP4.set 0 _).set 1 _
      have hR6 := (hR5.far (p := ⟨P6, 0, none⟩) (by show w.heap.size ≠ P6; omega) (.int .i64 p')).far (p := ⟨P6, 1, none⟩) (by show w.heap.size ≠ P6; omega) (.int .i64 l')
      have ho5 := ho4.setsx hPne 0 1 (.int .i64 p') (.int .i64 l')
      have hb5 := (hb4.setCell (p := ⟨P6, 0, none⟩) (by show w.heap.size ≤ P6; omega) (.int .i64 p')).setCell (p := ⟨P6, 1, none⟩) (by show w.heap.size ≤ P6; omega) (.int .i64 l')
      go_wp2
      generalize (w4.setCell ⟨P6, 0, none⟩ (.int .i64 p')).setCell ⟨P6, 1, none⟩ (.int .i64 l') = w5 at *
      clear q0 q1 qf0 qf1 hP4 hR5 ho4 hb4
      have r0 : w5.cell? ⟨w.heap.size, 0, none⟩ = some (.int .i64 0) := Blk.cell hR6 0
      have r1 : w5.cell? ⟨w.heap.size, 1, none⟩ = some (.int .i64 0) := Blk.cell hR6 1
      have rf0 : w5.frozen? ⟨w.heap.size, 0, none⟩ = false := Blk.frozen hR6 0
      have rf1 : w5.frozen? ⟨w.heap.size, 1, none⟩ = false := Blk.frozen hR6 1
      have p0 : w5.cell? ⟨P6, 0, none⟩ = some (.int .i64 (p')) := Blk.cell hP5 0
      have p1 : w5.cell? ⟨P6, 1, none⟩ = some (.int .i64 (l')) := Blk.cell hP5 1
      have hnp1 : ¬ P6 = w.heap.size := by omega
      have hnp2 : ¬ w.heap.size = P6 := by omega
      have HOF := Lib.hid ho5
      have HBF := Lib.hid hb5
      go_wp2
      go_region
      all_goals
        go_wp2
        refine bodyPost_ret (v := .tuple #[.slice A1 xs.length c1, .agg #[.int .i64 (p'), .int .i64 (l')]]) (by simp [results, Try.results15, go_sem, r0, r1]) rfl ⟨A1, c1, xs, p', l', rfl, ?_, ?_, hl⟩
        · exact own_ints.2 (((Own.sets2 (show Own (w5.drew) _ _ _ _ from HOF.out) (k := w.heap.size) (by omega) _ _ _ _)).le (by omega))
        · exact ((Below.drew HBF.out).setCell (by simp) _).setCell (by simp) _
end Go.Proofs.Ytmdnbmdkommmkaa
