/- WallAt of the program: contract. Conditions: none. -/
import Derived.Test.YtidfbbegjpfjpaaWal6
import Derived.Test.YtidfbbegjpfjpaaWal4
namespace Go.Proofs.Ytidfbbegjpfjpaa
open Go.RowKit
set_option linter.unusedVariables false

theorem lowV_form (x : Int × Nat) : ∃ (a b : Int) (c : Bool), lowV x = .tuple #[.agg #[.int .i64 a, .int .i64 b], .bool c] := by
  unfold lowV dyP
  split
  · exact ⟨_, _, _, rfl⟩
  · exact ⟨_, _, _, rfl⟩
/-- A value is handed back; nothing that was there has turned. -/
def RetW (xs : List Pt) (t p : Int) (w : World) (e : Ending) (w' : World) : Prop := ∃ (a b : Int) (c : Bool), WallR xs t p (.tuple #[.agg #[.int .i64 a, .int .i64 b], .bool c]) ∧ e = .returned (.tuple #[.agg #[.int .i64 a, .int .i64 b], .bool c]) ∧ Below w.heap.size w w'
theorem gwB_eq {xs : List Pt} : gwB xs = true ↔ GoodW xs := by
  constructor
  · intro h
    by_cases hg : GoodW xs
    · exact hg
    · rw [gwB_f hg] at h; cases h
  · exact gwB_t

set_option maxRecDepth 100000 in
set_option maxHeartbeats 1600000 in
theorem wallI_any (A : Option Addr) (c : Nat) (xs : List Pt) (t p : Int) (w : World) (B : Nat) (hB : B ≤ w.heap.size) (h : RdP w B A c xs) :
    Calls Try.prog 9 #[.slice A xs.length c, .agg #[.int .i64 t, .int .i64 p]] w (RetW xs t p w) := by
  have HW : Hid (∀ W, Below w.heap.size w W → Calls Try.prog 24 #[.slice A xs.length c] W fun e w' => e = .returned (.bool (gwB xs)) ∧ Below W.heap.size W w') := fun W hb => goodWallI_any A c xs W B (by have := hb.size; omega) (h.below hb hB)
  have hG := fun W => goodDyI_any t p W
  have h1 := h.len
  have h2 := h.max
  cases hw : gwB xs
  · have HN : Hid (WallR xs t p (.tuple #[.agg #[.int .i64 0, .int .i64 0], .bool false])) := .inl ⟨fun hh => (by have hq := gwB_t hh.1; rw [hw] at hq; cases hq), rfl⟩
    rw [hw] at HW
    clear hG hw
    go_enter Try.func9, Try.ntmps9
    go_wp2_with fail
    have hB2 := box2 w 26 26 #[.int .i64 t, .int .i64 p] #[.int .i64 0, .int .i64 0]
    generalize (w.alloc (.cells #[.int .i64 t, .int .i64 p] 26)).alloc (.cells #[.int .i64 0, .int .i64 0] 26) = W at *
    obtain ⟨b1, b2, hbW, hzW⟩ := hB2
    ((with_reducible refine (HW.out _ hbW).mono ?_); rintro e w1 ⟨rfl, hb1⟩)
    have b21 := b2.below hb1 (by omega)
    have g1 := hbW.trans (hb1.mono (by omega))
    have r0 : w1.cell? ⟨w.heap.size + 1, 0, none⟩ = some (.int .i64 (0)) := Blk.cell b21 0
    have r1 : w1.cell? ⟨w.heap.size + 1, 1, none⟩ = some (.int .i64 (0)) := Blk.cell b21 1
    have rf0 : w1.frozen? ⟨w.heap.size + 1, 0, none⟩ = false := Blk.frozen b21 0
    have rf1 : w1.frozen? ⟨w.heap.size + 1, 1, none⟩ = false := Blk.frozen b21 1
    clear hzW b1 b2
    go_wp2
    exact bodyPost_ret (v := .tuple #[.agg #[.int .i64 0, .int .i64 0], .bool false]) (by simp [results, Try.results9, go_sem, r0, r1]) rfl ⟨0, 0, false, HN.out, rfl, (g1.setCell (by simp) _).setCell (by simp) _⟩
  · have hwg := gwB_eq.1 hw
    rw [hw] at HW
    clear hw
    by_cases hgt : goodDyB t p = true ∧ 0 ≤ t
    · obtain ⟨hgt, ht0⟩ := hgt
      have hgt' := hgt
      rw [goodDyB, decide_eq_true_eq] at hgt'
      rw [hgt] at hG
      have HG := Lib.hid hG
      obtain ⟨P, hP⟩ : ∃ P : Nat, p = P := ⟨p.toNat, by omega⟩
      subst hP
      have HX := Lib.hid (fun W => inParts_any t P W (by omega) (by omega) (by omega))
      have hT : 0 ≤ sc20 t P ∧ sc20 t P ≤ 1048576000000 := ⟨by unfold sc20; exact Int.mul_nonneg ht0 (by have := pow_pos2 (20 - P); omega), (sc20_fits t P (by omega) (by omega)).2⟩
      have HL : Hid (∀ W, Below w.heap.size w W → Calls Try.prog 27 #[.slice A xs.length c] W (LineR W xs)) := fun W hb => lineOf_any A c xs W B (by have := hb.size; omega) (h.below hb hB) hwg.2.1 hwg.2.2.2.1
      have HVL : Hid (∀ A' c' W, RdS W W.heap.size A' c' xs → Calls Try.prog 28 #[.agg #[.slice A' xs.length c', .int .i64 0], .int .i64 (sc20 t P)] W fun e w' => ∃ k, IsK xs (sc20 t P) k ∧ e = .returned (.int .i64 (valK xs (sc20 t P) k)) ∧ Below W.heap.size W w') := fun A' c' W hr => value_any A' c' xs _ W _ (Nat.le_refl _) hr hwg hT
      have HFT : Hid (∀ k, IsK xs (sc20 t P) k → Fits (valK xs (sc20 t P) k)) := fun k hk => by have := valK_fits hwg hT hk.1; unfold Fits; omega
      have HR : Hid (∀ k, IsK xs (sc20 t P) k → WallR xs t P (lowV (nrm 20 (valK xs (sc20 t P) k)))) := fun k hk => .inr ⟨⟨hwg, hgt, ht0⟩, k, by simpa using hk, by simp⟩
      clear hG hwg hgt hgt' hT
      generalize sc20 t P = T at *
      go_enter Try.func9, Try.ntmps9
      go_wp2_with fail
      have hB2 := box2 w 26 26 #[.int .i64 t, .int .i64 P] #[.int .i64 0, .int .i64 0]
      generalize (w.alloc (.cells #[.int .i64 t, .int .i64 P] 26)).alloc (.cells #[.int .i64 0, .int .i64 0] 26) = W at *
      obtain ⟨b1, b2, hbW, hzW⟩ := hB2
      ((with_reducible refine (HW.out _ hbW).mono ?_); rintro e w1 ⟨rfl, hb1⟩)
      have b11 := b1.below hb1 (by omega)
      have b21 := b2.below hb1 (by omega)
      have g1 := hbW.trans (hb1.mono (by omega))
      have hz1 := hb1.size
      have q0 : w1.cell? ⟨w.heap.size, 0, none⟩ = some (.int .i64 t) := Blk.cell b11 0
      have q1 : w1.cell? ⟨w.heap.size, 1, none⟩ = some (.int .i64 P) := Blk.cell b11 1
      clear b1 b2
      go_wp2_with fail
      ((with_reducible refine (HG.out _).mono ?_); rintro e w2 ⟨rfl, hb2⟩)
      have b12 := b11.below hb2 (by omega)
      have b22 := b21.below hb2 (by omega)
      have g2 := g1.trans (hb2.mono (by omega))
      have hz2 := hb2.size
      clear q0 q1 b11 b21 g1
      have q0 : w2.cell? ⟨w.heap.size, 0, none⟩ = some (.int .i64 t) := Blk.cell b12 0
      have q1 : w2.cell? ⟨w.heap.size, 1, none⟩ = some (.int .i64 P) := Blk.cell b12 1
      have hnt : ¬ t < 0 := by omega
      have HS : Hid (∀ w', Below w2.drew.heap.size w2.drew w' → Blk w' w.heap.size 26 #[.int .i64 t, .int .i64 P] ∧ Blk w' (w.heap.size + 1) 26 #[.int .i64 0, .int .i64 0] ∧ Below w.heap.size w w') := fun w' hh =>
        ⟨Blk.below (show Blk w2.drew _ _ _ from b12) hh (by show w.heap.size < w2.heap.size; omega), Blk.below (show Blk w2.drew _ _ _ from b22) hh (by show w.heap.size + 1 < w2.heap.size; omega), (g2.drew).trans (hh.mono (by show w.heap.size ≤ w2.heap.size; omega))⟩
      have hne1 : ¬ w.heap.size = w.heap.size + 1 := by omega
      have hne2 : ¬ w.heap.size + 1 = w.heap.size := by omega
      clear b12 b22 hb2 hb1 hbW
      go_wp2
      have tok1 : True := trivial; have tok2 : True := trivial; have tok3 : True := trivial
      go_region_held3 (fun w' => w'.cell? ⟨w.heap.size, 0, none⟩ = some (.int .i64 t) ∧ w'.cell? ⟨w.heap.size, 1, none⟩ = some (.int .i64 P)) (go_keep)
        (first
          | (have _t := tok1; go_at_call 27; refine (HL.out _ (g2.drew)).mono ?_; rintro e w3 ⟨A3, c3, rfl, hr3, hb3⟩; have g3 := hb3; obtain ⟨s1, -, -⟩ := HS.out _ g3; have m0 := s1.cell 0; have m1 := s1.cell 1; clear s1 tok1)
          | (have _t := tok2; go_at_call 29; refine (HX.out _).mono ?_; rintro e w4 ⟨rfl, hb4⟩; have g4 := g3.trans (hb4.mono g3.size); obtain ⟨s1, -, -⟩ := HS.out _ g4; have n0 := s1.cell 0; have n1 := s1.cell 1; clear s1 tok2)
          | (have _t := tok3; go_at_call 28; refine (HVL.out _ _ _ ((hr3.below hb4 (Nat.le_refl _)).more hb4.size)).mono ?_; rintro e w5 ⟨k, hk, rfl, hb5⟩; have g5 := g4.trans (hb5.mono g4.size); obtain ⟨s1, -, -⟩ := HS.out _ g5; have o0 := s1.cell 0; have o1 := s1.cell 1; clear s1 tok3)
          | (go_at_call 26; refine (asDy_any _ _ (HFT.out k hk)).mono ?_; rintro e w6 ⟨rfl, hb6⟩; obtain ⟨x, y, z, he⟩ := lowV_form (nrm 20 (valK xs T k)); rw [he]; have g6 := g5.trans (hb6.mono g5.size); obtain ⟨s1, s2, s3⟩ := HS.out _ g6; have v0 := s1.cell 0; have v1 := s1.cell 1; have r0 := s2.cell 0; have r1 := s2.cell 1; have rf0 := s2.frozen 0; have rf1 := s2.frozen 1; clear s1))
      all_goals
        have e0 : w6.cell? ⟨w.heap.size + 1, 0, none⟩ = some (.int .i64 0) := s2.cell 0
        have e1 : w6.cell? ⟨w.heap.size + 1, 1, none⟩ = some (.int .i64 0) := s2.cell 1
        have HE := Lib.hid he; have HB3 := Lib.hid s3; have HK := Lib.hid hk
        clear m0 m1 n0 n1 o0 o1 v0 v1 r0 r1 he s2 s3 hk q0 q1
        go_wp2
        refine bodyPost_ret (v := .tuple #[.agg #[.int .i64 x, .int .i64 y], .bool z]) (by simp [results, Try.results9, go_sem, e0, e1]) rfl ⟨x, y, z, ?_, rfl, (HB3.out.setCell (by simp) _).setCell (by simp) _⟩
        rw [← HE.out]
        exact HR.out k HK.out
    · have HN : Hid (WallR xs t p (.tuple #[.agg #[.int .i64 0, .int .i64 0], .bool false])) := .inl ⟨fun hh => hgt hh.2, rfl⟩
      clear hwg
      cases hg : goodDyB t p
      · rw [hg] at hG
        have HG := Lib.hid hG
        clear hG hgt hg
        go_enter Try.func9, Try.ntmps9
        go_wp2_with fail
        have hB2 := box2 w 26 26 #[.int .i64 t, .int .i64 p] #[.int .i64 0, .int .i64 0]
        generalize (w.alloc (.cells #[.int .i64 t, .int .i64 p] 26)).alloc (.cells #[.int .i64 0, .int .i64 0] 26) = W at *
        obtain ⟨b1, b2, hbW, hzW⟩ := hB2
        ((with_reducible refine (HW.out _ hbW).mono ?_); rintro e w1 ⟨rfl, hb1⟩)
        have b11 := b1.below hb1 (by omega)
        have b21 := b2.below hb1 (by omega)
        have g1 := hbW.trans (hb1.mono (by omega))
        have hz1 := hb1.size
        have q0 : w1.cell? ⟨w.heap.size, 0, none⟩ = some (.int .i64 t) := Blk.cell b11 0
        have q1 : w1.cell? ⟨w.heap.size, 1, none⟩ = some (.int .i64 p) := Blk.cell b11 1
        clear b1 b2
        go_wp2_with fail
        ((with_reducible refine (HG.out _).mono ?_); rintro e w2 ⟨rfl, hb2⟩)
        have b12 := b11.below hb2 (by omega)
        have b22 := b21.below hb2 (by omega)
        have g2 := g1.trans (hb2.mono (by omega))
        clear q0 q1
        have q0 : w2.cell? ⟨w.heap.size, 0, none⟩ = some (.int .i64 t) := Blk.cell b12 0
        have q1 : w2.cell? ⟨w.heap.size, 1, none⟩ = some (.int .i64 p) := Blk.cell b12 1
        have r0 : w2.cell? ⟨w.heap.size + 1, 0, none⟩ = some (.int .i64 (0)) := Blk.cell b22 0
        have r1 : w2.cell? ⟨w.heap.size + 1, 1, none⟩ = some (.int .i64 (0)) := Blk.cell b22 1
        have rf0 : w2.frozen? ⟨w.heap.size + 1, 0, none⟩ = false := Blk.frozen b22 0
        have rf1 : w2.frozen? ⟨w.heap.size + 1, 1, none⟩ = false := Blk.frozen b22 1
        clear b11 b21 b12 b22 g1
        go_wp2
        exact bodyPost_ret (v := .tuple #[.agg #[.int .i64 0, .int .i64 0], .bool false]) (by simp [results, Try.results9, go_sem, r0, r1]) rfl ⟨0, 0, false, HN.out, rfl, (g2.setCell (by simp) _).setCell (by simp) _⟩
      · have hneg : t < 0 := by
          rcases Int.lt_or_le t 0 with h | h
          · exact h
          · exact absurd ⟨hg, h⟩ hgt
        rw [hg] at hG
        have HG := Lib.hid hG
        clear hG hgt hg
        go_enter Try.func9, Try.ntmps9
        go_wp2_with fail
        have hB2 := box2 w 26 26 #[.int .i64 t, .int .i64 p] #[.int .i64 0, .int .i64 0]
        generalize (w.alloc (.cells #[.int .i64 t, .int .i64 p] 26)).alloc (.cells #[.int .i64 0, .int .i64 0] 26) = W at *
        obtain ⟨b1, b2, hbW, hzW⟩ := hB2
        ((with_reducible refine (HW.out _ hbW).mono ?_); rintro e w1 ⟨rfl, hb1⟩)
        have b11 := b1.below hb1 (by omega)
        have b21 := b2.below hb1 (by omega)
        have g1 := hbW.trans (hb1.mono (by omega))
        have hz1 := hb1.size
        have q0 : w1.cell? ⟨w.heap.size, 0, none⟩ = some (.int .i64 t) := Blk.cell b11 0
        have q1 : w1.cell? ⟨w.heap.size, 1, none⟩ = some (.int .i64 p) := Blk.cell b11 1
        clear b1 b2
        go_wp2_with fail
        ((with_reducible refine (HG.out _).mono ?_); rintro e w2 ⟨rfl, hb2⟩)
        have b12 := b11.below hb2 (by omega)
        have b22 := b21.below hb2 (by omega)
        have g2 := g1.trans (hb2.mono (by omega))
        clear q0 q1
        have q0 : w2.cell? ⟨w.heap.size, 0, none⟩ = some (.int .i64 t) := Blk.cell b12 0
        have q1 : w2.cell? ⟨w.heap.size, 1, none⟩ = some (.int .i64 p) := Blk.cell b12 1
        have r0 : w2.cell? ⟨w.heap.size + 1, 0, none⟩ = some (.int .i64 (0)) := Blk.cell b22 0
        have r1 : w2.cell? ⟨w.heap.size + 1, 1, none⟩ = some (.int .i64 (0)) := Blk.cell b22 1
        have rf0 : w2.frozen? ⟨w.heap.size + 1, 0, none⟩ = false := Blk.frozen b22 0
        have rf1 : w2.frozen? ⟨w.heap.size + 1, 1, none⟩ = false := Blk.frozen b22 1
        clear b11 b21 b12 b22 g1
        go_wp2
        exact bodyPost_ret (v := .tuple #[.agg #[.int .i64 0, .int .i64 0], .bool false]) (by simp [results, Try.results9, go_sem, r0, r1]) rfl ⟨0, 0, false, HN.out, rfl, (g2.setCell (by simp) _).setCell (by simp) _⟩
end Go.Proofs.Ytidfbbegjpfjpaa
