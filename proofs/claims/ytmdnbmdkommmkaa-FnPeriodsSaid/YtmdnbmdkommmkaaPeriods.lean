/- FnPeriods returns true: the walk. Conditions: none. -/
import Derived.Test.YtmdnbmdkommmkaaDrawFind
import Derived.Test.YtmdnbmdkommmkaaBig
namespace Go.Proofs.Ytmdnbmdkommmkaa
open Go.RowKit
set_option linter.unusedVariables false

set_option maxRecDepth 100000 in
set_option maxHeartbeats 3200000 in
theorem lawPeriods (a : Option Addr) (len cap : Nat) (zs : List Int) (w : World) (h : IsRow .u8 w a len cap zs) :
    Calls Try.prog 4 #[.slice a len cap] w fun e w' => e = .returned (.bool true) ∧ Below w.heap.size w w' := by
  obtain ⟨hr, hl⟩ := h.rdY
  clear h
  generalize zs.take len = bs at hr hl
  subst hl
  have h1 := hr.1.len
  have h2 := hr.1.max
  rw [byts_len] at h1
  have HB := Lib.hid (rBig_any a bs.length cap)
  by_cases hbig : 65536 < bs.length
  · have hbt : decide (65536 < bs.length) = true := by simpa using hbig
    have hB := HB.out w (by omega)
    rw [hbt] at hB
    have HB' := Lib.hid hB
    clear hB hbt
    go_enter Try.func4, Try.ntmps4
    go_wp2_with fail
    ((with_reducible refine HB'.out.mono ?_); rintro e w1 ⟨rfl, rfl⟩)
    go_wp2
    go_ret
    exact ⟨rfl, Below.refl _ _⟩
  · have hbt : decide (65536 < bs.length) = false := by simpa using hbig
    have hB := HB.out w (by omega)
    rw [hbt] at hB
    have HB' := Lib.hid hB
    have hsm : bs.length ≤ 65536 := by omega
    clear hB hbt hbig
    go_enter Try.func4, Try.ntmps4
    go_wp2_with fail
    ((with_reducible refine HB'.out.mono ?_); rintro e w1 ⟨rfl, rfl⟩)
    go_wp2_with fail
    ((with_reducible refine (drawFind_any _ _ _ _ hr).mono ?_); rintro e w1 ⟨A1, c1, xs, z, rfl, ho1, hb1, hxl⟩)
    have hz1 := hb1.size
    have hlen1 : xs.length ≤ c1 := (ho1.rd rfl).len
    go_wp2_with fail
    ((with_reducible refine (findI_any _ _ _ _ _ _ (Nat.le_refl _) (ho1.rd rfl)).mono ?_); rintro e w2 ⟨r, hF, rfl, hb2⟩)
    have HF := Lib.hid hF; clear hF
    cases r with
    | none =>
      have e1 : perV none = .tuple #[.agg #[.int .i64 (0), .int .i64 (0)], .bool false] := rfl
      rw [e1]
      clear e1
      have hz2 := hb2.size
      have g2 := gtr hb1 hb2
      have ho2 := ho1.below hb2
      have hP3 := Blk.new w2 27 #[.int .i64 (0), .int .i64 (0)]
      have ho3 := ho2.below (bel1 w2 (.cells #[.int .i64 (0), .int .i64 (0)] 27))
      have g3 := gtr g2 (bel1 w2 (.cells #[.int .i64 (0), .int .i64 (0)] 27))
      have hz3 : (w2.alloc (.cells #[.int .i64 (0), .int .i64 (0)] 27)).heap.size = w2.heap.size + 1 := by simp
      go_wp2_with fail
      generalize w2.alloc (.cells #[.int .i64 (0), .int .i64 (0)] 27) = W3 at *
      ((with_reducible refine (findS_any _ _ _ _ _ _ (Nat.le_refl _) (ho3.rd rfl)).mono ?_); rintro e w4 ⟨r2, hF2, rfl, hb4⟩)
      obtain rfl := Fnd_unique HF.out hF2
      clear hF2
      have e1 : perV none = .tuple #[.agg #[.int .i64 (0), .int .i64 (0)], .bool false] := rfl
      rw [e1]
      clear e1
      have hz4 := hb4.size
      have g4 := gtr g3 hb4
      have ho4 := ho3.below hb4
      have hP4 := hP3.below hb4 (by omega)
      have hP5 := hP4.alloc (.cells #[.int .i64 (0), .int .i64 (0)] 27)
      have ho5 := ho4.below (bel1 w4 (.cells #[.int .i64 (0), .int .i64 (0)] 27))
      have g5 := gtr g4 (bel1 w4 (.cells #[.int .i64 (0), .int .i64 (0)] 27))
      have hz5 : (w4.alloc (.cells #[.int .i64 (0), .int .i64 (0)] 27)).heap.size = w4.heap.size + 1 := by simp
      have p0 : (w4.alloc (.cells #[.int .i64 (0), .int .i64 (0)] 27)).cell? ⟨w2.heap.size, 0, none⟩ = some (.int .i64 (0)) := Blk.cell hP5 0
      have p1 : (w4.alloc (.cells #[.int .i64 (0), .int .i64 (0)] 27)).cell? ⟨w2.heap.size, 1, none⟩ = some (.int .i64 (0)) := Blk.cell hP5 1
      have hnn1 : ¬ w4.heap.size = w2.heap.size := by omega
      have hnn2 : ¬ w2.heap.size = w4.heap.size := by omega
      clear hP3 ho2 ho3 hP4 ho4
      go_wp2
      go_ret
      exact ⟨rfl, g5⟩
    | some pl =>
      obtain ⟨p, l⟩ := pl
      have e1 : perV (some (p, l)) = .tuple #[.agg #[.int .i64 ((p:Int)), .int .i64 ((l:Int))], .bool true] := rfl
      rw [e1]
      clear e1
      have hz2 := hb2.size
      have g2 := gtr hb1 hb2
      have ho2 := ho1.below hb2
      have hP3 := Blk.new w2 27 #[.int .i64 ((p:Int)), .int .i64 ((l:Int))]
      have ho3 := ho2.below (bel1 w2 (.cells #[.int .i64 ((p:Int)), .int .i64 ((l:Int))] 27))
      have g3 := gtr g2 (bel1 w2 (.cells #[.int .i64 ((p:Int)), .int .i64 ((l:Int))] 27))
      have hz3 : (w2.alloc (.cells #[.int .i64 ((p:Int)), .int .i64 ((l:Int))] 27)).heap.size = w2.heap.size + 1 := by simp
      go_wp2_with fail
      generalize w2.alloc (.cells #[.int .i64 ((p:Int)), .int .i64 ((l:Int))] 27) = W3 at *
      ((with_reducible refine (findS_any _ _ _ _ _ _ (Nat.le_refl _) (ho3.rd rfl)).mono ?_); rintro e w4 ⟨r2, hF2, rfl, hb4⟩)
      obtain rfl := Fnd_unique HF.out hF2
      clear hF2
      have e1 : perV (some (p, l)) = .tuple #[.agg #[.int .i64 ((p:Int)), .int .i64 ((l:Int))], .bool true] := rfl
      rw [e1]
      clear e1
      have hz4 := hb4.size
      have g4 := gtr g3 hb4
      have ho4 := ho3.below hb4
      have hP4 := hP3.below hb4 (by omega)
      have hP5 := hP4.alloc (.cells #[.int .i64 ((p:Int)), .int .i64 ((l:Int))] 27)
      have ho5 := ho4.below (bel1 w4 (.cells #[.int .i64 ((p:Int)), .int .i64 ((l:Int))] 27))
      have g5 := gtr g4 (bel1 w4 (.cells #[.int .i64 ((p:Int)), .int .i64 ((l:Int))] 27))
      have hz5 : (w4.alloc (.cells #[.int .i64 ((p:Int)), .int .i64 ((l:Int))] 27)).heap.size = w4.heap.size + 1 := by simp
      have p0 : (w4.alloc (.cells #[.int .i64 ((p:Int)), .int .i64 ((l:Int))] 27)).cell? ⟨w2.heap.size, 0, none⟩ = some (.int .i64 ((p:Int))) := Blk.cell hP5 0
      have p1 : (w4.alloc (.cells #[.int .i64 ((p:Int)), .int .i64 ((l:Int))] 27)).cell? ⟨w2.heap.size, 1, none⟩ = some (.int .i64 ((l:Int))) := Blk.cell hP5 1
      have hnn1 : ¬ w4.heap.size = w2.heap.size := by omega
      have hnn2 : ¬ w2.heap.size = w4.heap.size := by omega
      clear hP3 ho2 ho3 hP4 ho4
      have hfnd := HF.out
      unfold Fnd at hfnd
      have hcond : goodCode xs ∧ 0 ≤ z ∧ z ≤ 300 := by
        by_cases hc : goodCode xs ∧ 0 ≤ z ∧ z ≤ 300
        · exact hc
        · rw [if_neg hc] at hfnd; cases hfnd
      rw [if_pos hcond] at hfnd
      obtain ⟨hpr, hne, hnm⟩ := isPer_proved (by omega) hcond.1 hfnd.1
      obtain ⟨hon1, hon2, hon3, hon4⟩ := proved_on hpr
      have hnz : 2 * (p : Int) + 2 * (l : Int) + (xs.length : Int) ≤ z := by omega
      have HND : Hid (∀ W B, B ≤ W.heap.size → RdI W B A1 c1 xs → Calls Try.prog 21 #[.slice A1 xs.length c1, .agg #[.int .i64 p, .int .i64 l]] W fun e w' => e = .returned (.int .i64 (2 * (p : Int) + 2 * (l : Int) + (xs.length : Int))) ∧ Below W.heap.size W w') := fun W B hB hh => by
        have := needsI_any A1 c1 xs p l W B hB hh; rwa [hne] at this
      have HPR : Hid (∀ W B, B ≤ W.heap.size → RdI W B A1 c1 xs → Calls Try.prog 23 #[.slice A1 xs.length c1, .agg #[.int .i64 p, .int .i64 l]] W fun e w' => e = .returned (.bool true) ∧ Below W.heap.size W w') := fun W B hB hh => by
        have := provedI_any A1 c1 xs p l W B hB hh; rwa [hpr] at this
      have HHV : Hid (∀ W B, B ≤ W.heap.size → RdI W B A1 c1 xs → Calls Try.prog 22 #[.slice A1 xs.length c1, .int .i64 300] W (HvGood xs W)) := fun W B hB hh => hv_good A1 c1 xs W B hB hh hon1 hon3
      have hvl : (nats (V xs 301)).length = 301 := by rw [nats_len, V_len]
      have HRP : Hid (∀ A c W B, B ≤ W.heap.size → RdI W B A c (nats (V xs 301)) → Calls Try.prog 14 #[.slice A 301 c, .agg #[.int .i64 p, .int .i64 l]] W fun e w' => e = .returned (.bool true) ∧ Below W.heap.size W w') := fun A c W B hB hh => by
        have := repeatsI_any A c (nats (V xs 301)) p l W B hB hh
        rw [hon2, hon4, hvl] at this
        exact this
      have HVL := Lib.hid hvl
      have hpb : (p : Int) ≤ 300 ∧ 1 ≤ (l : Int) ∧ (l : Int) ≤ 300 := by simp [goodPerB] at hon2; omega
      obtain ⟨hpb1, hpb2, hpb3⟩ := hpb
      clear hfnd hcond hpr hne hnm hon1 hon2 hon3 hon4 hvl
      go_wp2_with fail
      generalize w4.alloc (.cells #[.int .i64 (p:Int), .int .i64 (l:Int)] 27) = W5 at *
      obtain ⟨P4, hP4e⟩ : ∃ P4, P4 = w2.heap.size := ⟨_, rfl⟩
      rw [← hP4e] at hP5 p0 p1 hnn1 hnn2 ⊢
      have hlt4 := hP5.lt
      clear hP4e hnn1 hnn2 p0 p1
      ((with_reducible refine (HND.out _ _ (Nat.le_refl _) (ho5.rd rfl)).mono ?_); rintro e w6 ⟨rfl, hb6⟩)
      have ho6 := ho5.below hb6
      have hP6 := hP5.below hb6 hlt4
      have g6 := gtr g5 hb6
      clear ho5 hP5 g5 hb6
      have p0 : w6.cell? ⟨P4, 0, none⟩ = some (.int .i64 (p : Int)) := Blk.cell hP6 0
      have p1 : w6.cell? ⟨P4, 1, none⟩ = some (.int .i64 (l : Int)) := Blk.cell hP6 1
      go_wp2_with fail
      ((with_reducible refine (HHV.out _ _ (Nat.le_refl _) (ho6.rd rfl)).mono ?_); rintro e w7 ⟨A7, c7, rfl, ho7, hb7⟩)
      have hoA := ho6.below hb7
      have hP7 := hP6.below hb7 hP6.lt
      have g7 := gtr g6 hb7
      clear ho6 hP6 g6 hb7 p0 p1
      have p0 : w7.cell? ⟨P4, 0, none⟩ = some (.int .i64 (p : Int)) := Blk.cell hP7 0
      have p1 : w7.cell? ⟨P4, 1, none⟩ = some (.int .i64 (l : Int)) := Blk.cell hP7 1
      go_wp2_with fail
      ((with_reducible refine (HPR.out _ _ (Nat.le_refl _) (hoA.rd rfl)).mono ?_); rintro e w8 ⟨rfl, hb8⟩)
      have ho8 := ho7.below hb8
      have hP8 := hP7.below hb8 hP7.lt
      have g8 := gtr g7 hb8
      clear hoA ho7 hP7 g7 hb8 p0 p1
      have p0 : w8.cell? ⟨P4, 0, none⟩ = some (.int .i64 (p : Int)) := Blk.cell hP8 0
      have p1 : w8.cell? ⟨P4, 1, none⟩ = some (.int .i64 (l : Int)) := Blk.cell hP8 1
      go_wp2_with fail
      ((with_reducible refine (HRP.out _ _ _ _ (Nat.le_refl _) (ho8.rd HVL.out.symm)).mono ?_); rintro e w9 ⟨rfl, hb9⟩)
      have g9 := gtr g8 hb9
      go_wp2
      go_ret
      exact ⟨rfl, g9⟩
end Go.Proofs.Ytmdnbmdkommmkaa
