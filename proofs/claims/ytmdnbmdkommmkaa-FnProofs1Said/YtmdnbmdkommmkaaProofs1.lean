/- FnProofs1 returns true: the walk. Conditions: none. -/
import Derived.Test.YtmdnbmdkommmkaaDrawPro
import Derived.Test.YtmdnbmdkommmkaaBig
namespace Go.Proofs.Ytmdnbmdkommmkaa
open Go.RowKit
set_option linter.unusedVariables false

set_option maxRecDepth 100000 in
set_option maxHeartbeats 1600000 in
theorem drawTwo_any (A : Option Addr) (c : Nat) (bs : List Int) (w : World) (h : RdY w A c bs) :
    Calls Try.prog 58 #[.slice A bs.length c] w (NewRP w 20) := by
  go_enter Try.func58, Try.ntmps58
  go_wp2_with fail
  have hR := Blk.new w 27 #[.int .i64 0, .int .i64 0]
  have hb0 := bel1 w (.cells #[.int .i64 0, .int .i64 0] 27)
  have h1 := h.below hb0
  have hz0 : (w.alloc (.cells #[.int .i64 0, .int .i64 0] 27)).heap.size = w.heap.size + 1 := by simp
  generalize w.alloc (.cells #[.int .i64 0, .int .i64 0] 27) = V at *
  have hc := Cur.new h1
  have hbV := bel1 V (.cells #[.slice A bs.length c, .int .i64 0, .int .u64 0] 68)
  have hR1 := hR.alloc (.cells #[.slice A bs.length c, .int .i64 0, .int .u64 0] 68)
  generalize V.alloc (.cells #[.slice A bs.length c, .int .i64 0, .int .u64 0] 68) = W at *
  have hzV := hbV.size
  have hltW := hc.lt
  rw [hz0] at hc hltW
  ((with_reducible refine (drawProved_any _ _ _ _ hc (by omega)).mono ?_); rintro e w1 ⟨A1, c1, xs, p, l, rfl, ho, hg, hc1, hl⟩)
  have hz1 := hg.size
  have hb1 : Below w.heap.size w w1 := (hb0.trans (hbV.mono (by omega))).trans ((hg.mono (B' := w.heap.size) (by omega)).below (by omega))
  have hR2 := hR1.gb hg (by omega) (by omega)
  have r0 : w1.cell? ⟨w.heap.size, 0, none⟩ = some (.int .i64 0) := hR2.cell 0
  have r1 : w1.cell? ⟨w.heap.size, 1, none⟩ = some (.int .i64 0) := hR2.cell 1
  have rf0 : w1.frozen? ⟨w.heap.size, 0, none⟩ = false := hR2.frozen 0
  have rf1 : w1.frozen? ⟨w.heap.size, 1, none⟩ = false := hR2.frozen 1
  have HO := Lib.hid (own_ints.1 ho); have HB := Lib.hid hb1
  clear ho hg hc hR hR1 hR2 hb1 hz0
  go_wp2
  refine bodyPost_ret (v := .tuple #[.slice A1 xs.length c1, .agg #[.int .i64 p, .int .i64 l]]) (by simp [results, Try.results58, go_sem, r0, r1]) rfl ⟨A1, c1, xs, p, l, rfl, ?_, ?_, hl⟩
  · exact own_ints.2 ((Own.sets2 HO.out (k := w.heap.size) (by omega) _ _ _ _).le (by omega))
  · exact (HB.out.setCell (by simp) _).setCell (by simp) _

set_option maxRecDepth 100000 in
set_option maxHeartbeats 1600000 in
theorem drawPP_any (A : Option Addr) (c : Nat) (bs : List Int) (w : World) (h : RdY w A c bs) :
    Calls Try.prog 24 #[.slice A bs.length c] w (NewRP w 20) := by
  go_enter Try.func24, Try.ntmps24
  go_wp2_with fail
  have hR := Blk.new w 27 #[.int .i64 0, .int .i64 0]
  have hb0 := bel1 w (.cells #[.int .i64 0, .int .i64 0] 27)
  have h1 := h.below hb0
  have hz0 : (w.alloc (.cells #[.int .i64 0, .int .i64 0] 27)).heap.size = w.heap.size + 1 := by simp
  generalize w.alloc (.cells #[.int .i64 0, .int .i64 0] 27) = V at *
  ((with_reducible refine (drawTwo_any _ _ _ _ h1).mono ?_); rintro e w1 ⟨A1, c1, xs, p, l, rfl, ho, hb1, hl⟩)
  have hR2 := hR.below hb1 (by omega)
  have hb2 : Below w.heap.size w w1 := hb0.trans (hb1.mono (by omega))
  have r0 : w1.cell? ⟨w.heap.size, 0, none⟩ = some (.int .i64 0) := hR2.cell 0
  have r1 : w1.cell? ⟨w.heap.size, 1, none⟩ = some (.int .i64 0) := hR2.cell 1
  have rf0 : w1.frozen? ⟨w.heap.size, 0, none⟩ = false := hR2.frozen 0
  have rf1 : w1.frozen? ⟨w.heap.size, 1, none⟩ = false := hR2.frozen 1
  have HO := Lib.hid (own_ints.1 ho); have HB := Lib.hid hb2
  have HZ := Lib.hid hz0
  clear ho hb1 hR hR2 hb2 hz0
  go_wp2
  refine bodyPost_ret (v := .tuple #[.slice A1 xs.length c1, .agg #[.int .i64 p, .int .i64 l]]) (by simp [results, Try.results24, go_sem, r0, r1]) rfl ⟨A1, c1, xs, p, l, rfl, ?_, ?_, hl⟩
  · exact own_ints.2 ((Own.sets2 HO.out (k := w.heap.size) (by have := HZ.out; omega) _ _ _ _).le (by have := HZ.out; omega))
  · exact (HB.out.setCell (by simp) _).setCell (by simp) _

set_option maxRecDepth 100000 in
set_option maxHeartbeats 3200000 in
theorem lawProofs1 (a : Option Addr) (len cap : Nat) (zs : List Int) (w : World) (h : IsRow .u8 w a len cap zs) :
    Calls Try.prog 5 #[.slice a len cap] w fun e w' => e = .returned (.bool true) ∧ Below w.heap.size w w' := by
  obtain ⟨hr, hl⟩ := h.rdY
  clear h
  generalize zs.take len = bs at hr hl
  subst hl
  have h1 := hr.1.len
  have h2 := hr.1.max
  rw [byts_len] at h1
  have HB := Lib.hid (rBig_any a bs.length cap)
  by_cases hbig : 65536 < bs.length
  · have hbt : decide (65536 < bs.length) = true := by simpa using hbig
    have hB := HB.out w (by omega)
    rw [hbt] at hB
    have HB' := Lib.hid hB
    clear hB hbt
    go_enter Try.func5, Try.ntmps5
    go_wp2_with fail
    ((with_reducible refine HB'.out.mono ?_); rintro e w1 ⟨rfl, rfl⟩)
    go_wp2
    go_ret
    exact ⟨rfl, Below.refl _ _⟩
  · have hbt : decide (65536 < bs.length) = false := by simpa using hbig
    have hB := HB.out w (by omega)
    rw [hbt] at hB
    have HB' := Lib.hid hB
    clear hB hbt hbig
    go_enter Try.func5, Try.ntmps5
    go_wp2_with fail
    ((with_reducible refine HB'.out.mono ?_); rintro e w1 ⟨rfl, rfl⟩)
    go_wp2_with fail
    ((with_reducible refine (drawPP_any _ _ _ _ hr).mono ?_); rintro e w1 ⟨A1, c1, xs, p, l, rfl, ho1, hb1, hxl⟩)
    have hz1 := hb1.size
    have hlen1 : xs.length ≤ c1 := (ho1.rd rfl).len
    have hP2 := Blk.new w1 27 #[.int .i64 p, .int .i64 l]
    have ho2 := ho1.below (bel1 w1 (.cells #[.int .i64 p, .int .i64 l] 27))
    have g2 := gtr hb1 (bel1 w1 (.cells #[.int .i64 p, .int .i64 l] 27))
    go_wp2_with fail
    generalize w1.alloc (.cells #[.int .i64 p, .int .i64 l] 27) = W2 at *
    obtain ⟨P4, hP4e⟩ : ∃ P4, P4 = w1.heap.size := ⟨_, rfl⟩
    rw [← hP4e] at hP2 ⊢
    clear hP4e
    obtain ⟨pv, hpv⟩ : ∃ pv, provedB xs p l = pv := ⟨_, rfl⟩
    have HPI : Hid (∀ W B, B ≤ W.heap.size → RdI W B A1 c1 xs → Calls Try.prog 23 #[.slice A1 xs.length c1, .agg #[.int .i64 p, .int .i64 l]] W fun e w' => e = .returned (.bool pv) ∧ Below W.heap.size W w') := fun W B hB hh => by
      have := provedI_any A1 c1 xs p l W B hB hh; rwa [hpv] at this
    have HPS : Hid (∀ W B, B ≤ W.heap.size → RdI W B A1 c1 xs → Calls Try.prog 25 #[.slice A1 xs.length c1, .agg #[.int .i64 p, .int .i64 l]] W fun e w' => e = .returned (.bool pv) ∧ Below W.heap.size W w') := fun W B hB hh => by
      have := provedS_any A1 c1 xs p l W B hB hh; rwa [hpv] at this
    obtain ⟨nd, hnd⟩ : ∃ nd, needs xs p l = nd := ⟨_, rfl⟩
    have HNI : Hid (∀ W B, B ≤ W.heap.size → RdI W B A1 c1 xs → Calls Try.prog 21 #[.slice A1 xs.length c1, .agg #[.int .i64 p, .int .i64 l]] W fun e w' => e = .returned (.int .i64 nd) ∧ Below W.heap.size W w') := fun W B hB hh => by
      have := needsI_any A1 c1 xs p l W B hB hh; rwa [hnd] at this
    have HNS : Hid (∀ W B, B ≤ W.heap.size → RdI W B A1 c1 xs → Calls Try.prog 26 #[.slice A1 xs.length c1, .agg #[.int .i64 p, .int .i64 l]] W fun e w' => e = .returned (.int .i64 nd) ∧ Below W.heap.size W w') := fun W B hB hh => by
      have := needsS_any A1 c1 xs p l W B hB hh; rwa [hnd] at this
    clear hnd
    have HON : Hid (pv = true → goodCode xs ∧ goodPerB p l = true ∧ small255 (V xs 301) ∧ repB (nats (V xs 301)) p.toNat l.toNat = true) := fun h => proved_on (hpv.trans h)
    clear hpv
    ((with_reducible refine (HPI.out _ _ (Nat.le_refl _) (ho2.rd rfl)).mono ?_); rintro e w3 ⟨rfl, hb3⟩)
    have ho3 := ho2.below hb3
    have hP3 := hP2.below hb3 hP2.lt
    have g3 := gtr g2 hb3
    have hlt3 := hP3.lt
    have q0 : w3.cell? ⟨P4, 0, none⟩ = some (.int .i64 p) := hP3.cell 0
    have q1 : w3.cell? ⟨P4, 1, none⟩ = some (.int .i64 l) := hP3.cell 1
    have hx0 := fun x => (grow_cell (w := w3) P4 0 hlt3 x).trans q0
    have hx1 := fun x => (grow_cell (w := w3) P4 1 hlt3 x).trans q1
    have HRD : Hid (∀ W, Below w3.heap.size w3 W → w3.heap.size ≤ W.heap.size ∧ RdI W w3.heap.size A1 c1 xs) := fun W hW => ⟨hW.size, (ho3.rd rfl).below hW (Nat.le_refl _)⟩
    clear ho2 hP2 hb3 g2
    cases pv
    · go_wp2
      refine wp_region_inv (Below w3.heap.size w3) (grow0 _) (by kernel_rfl) (by kernel_rfl) ?_
      repeat (go_big_quiet_step (first
        | (go_at_call 25; exact grow_step (HPS.out _ _ (HRD.out _ (inst_inv _)).1 (HRD.out _ (inst_inv _)).2))
        | (go_at_call 21; exact grow_step (HNI.out _ _ (HRD.out _ (inst_inv _)).1 (HRD.out _ (inst_inv _)).2))
        | (go_at_call 26; exact grow_step (HNS.out _ _ (HRD.out _ (inst_inv _)).1 (HRD.out _ (inst_inv _)).2))))
      refine wpQuiet_nil ?_
      intro w4 hw'
      have hb4 := grow_of hw'
      clear hw'
      have ho4 := ho3.below hb4
      have hP4 := hP3.below hb4 hP3.lt
      have g4 := gtr g3 hb4
      clear q0 q1 hx0 hx1
      go_wp2_with fail
      ((with_reducible refine (hv_any _ _ _ _ _ (Nat.le_refl _) (ho4.rd rfl)).mono ?_); rintro e w5 ⟨v, b, rfl, hb5⟩)
      have g5 := gtr g4 hb5
      cases b
      all_goals
        go_wp2
        go_ret
        exact ⟨rfl, g5⟩
    · obtain ⟨hon1, hon2, hon3, hon4⟩ := HON.out rfl
      have hvl : (nats (V xs 301)).length = 301 := by rw [nats_len, V_len]
      have HRP : Hid (∀ A c W B, B ≤ W.heap.size → RdI W B A c (nats (V xs 301)) → Calls Try.prog 14 #[.slice A 301 c, .agg #[.int .i64 p, .int .i64 l]] W fun e w' => e = .returned (.bool true) ∧ Below W.heap.size W w') := fun A c W B hB hh => by
        have := repeatsI_any A c (nats (V xs 301)) p l W B hB hh
        rw [hon2, hon4, hvl] at this
        exact this
      have HVL := Lib.hid hvl
      have HHV : Hid (∀ W B, B ≤ W.heap.size → RdI W B A1 c1 xs → Calls Try.prog 22 #[.slice A1 xs.length c1, .int .i64 300] W (HvGood xs W)) := fun W B hB hh => hv_good A1 c1 xs W B hB hh hon1 hon3
      clear hon1 hon2 hon3 hon4 hvl
      go_wp2
      refine wp_region_inv (Below w3.heap.size w3) (grow0 _) (by kernel_rfl) (by kernel_rfl) ?_
      repeat (go_big_quiet_step (first
        | (go_at_call 25; exact grow_step (HPS.out _ _ (HRD.out _ (inst_inv _)).1 (HRD.out _ (inst_inv _)).2))
        | (go_at_call 21; exact grow_step (HNI.out _ _ (HRD.out _ (inst_inv _)).1 (HRD.out _ (inst_inv _)).2))
        | (go_at_call 26; exact grow_step (HNS.out _ _ (HRD.out _ (inst_inv _)).1 (HRD.out _ (inst_inv _)).2))))
      refine wpQuiet_nil ?_
      intro w4 hw'
      have hb4 := grow_of hw'
      clear hw'
      have ho4 := ho3.below hb4
      have hP4 := hP3.below hb4 hP3.lt
      have g4 := gtr g3 hb4
      clear q0 q1 hx0 hx1
      go_wp2_with fail
      ((with_reducible refine (HHV.out _ _ (Nat.le_refl _) (ho4.rd rfl)).mono ?_); rintro e w5 ⟨A5, c5, rfl, ho5, hb5⟩)
      have g5 := gtr g4 hb5
      have hP5 := hP4.below hb5 hP4.lt
      have p0 : w5.cell? ⟨P4, 0, none⟩ = some (.int .i64 p) := hP5.cell 0
      have p1 : w5.cell? ⟨P4, 1, none⟩ = some (.int .i64 l) := hP5.cell 1
      go_wp2_with fail
      ((with_reducible refine (HRP.out _ _ _ _ (Nat.le_refl _) (ho5.rd HVL.out.symm)).mono ?_); rintro e w6 ⟨rfl, hb6⟩)
      have g6 := gtr g5 hb6
      go_wp2
      go_ret
      exact ⟨rfl, g6⟩
end Go.Proofs.Ytmdnbmdkommmkaa
