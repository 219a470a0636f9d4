/- FnStalks returns true for every code. Conditions: none. -/
import Derived.Test.YtadljglcbieifaaDoorStk0
import Derived.Test.YtadljglcbieifaaDoorDrawK
import Derived.Test.YtadljglcbieifaaDoorCut
import Derived.Test.YtadljglcbieifaaDoorTurn2
namespace Go.Proofs.YtadljglcbieifaaDoor
open Go.RowKit
set_option linter.unusedVariables false

theorem bc0 {V : World} {B : Nat} {ty : TypeId} {a b : Value} (h : Blk V B ty #[a, b]) : V.cell? ⟨B, 0, none⟩ = some a := h.cell 0
theorem bc1 {V : World} {B : Nat} {ty : TypeId} {a b : Value} (h : Blk V B ty #[a, b]) : V.cell? ⟨B, 1, none⟩ = some b := h.cell 1

/-- A new number. -/
def NewD (w : World) (e : Ending) (w' : World) : Prop := ∃ t p : Int, e = .returned (.agg #[.int .i64 t, .int .i64 p]) ∧ Below w.heap.size w w'
set_option maxHeartbeats 1600000 in
theorem drawStalkOf_any (A : Option Addr) (c : Nat) (bs : List Int) (w : World) (h : RdY w A c bs) :
    Calls Tryd.prog 30 #[.slice A bs.length c] w (NewD w) := by
  go_enter Tryd.func30, Tryd.ntmps30
  go_wp2_with fail
  have hR := Blk.new w 44 #[.int .i64 0, .int .i64 0]
  have hb0 := bel1 w (.cells #[.int .i64 0, .int .i64 0] 44)
  have h1 := h.below hb0
  have hzV : (w.alloc (.cells #[.int .i64 0, .int .i64 0] 44)).heap.size = w.heap.size + 1 := by simp
  generalize w.alloc (.cells #[.int .i64 0, .int .i64 0] 44) = V at *
  obtain ⟨g, hge⟩ : ∃ g, g = w.heap.size + 1 := ⟨_, rfl⟩
  rw [← hge] at hzV ⊢
  have hgw : w.heap.size < g := by omega
  have hc := Cur.new h1
  have hbW := bel1 V (.cells #[.slice A bs.length c, .int .i64 0, .int .u64 0] 101)
  have hR1 := hR.below hbW (by omega)
  have hlW : V.heap.size < (V.alloc (.cells #[.slice A bs.length c, .int .i64 0, .int .u64 0] 101)).heap.size := by simp
  generalize V.alloc (.cells #[.slice A bs.length c, .int .i64 0, .int .u64 0] 101) = W at *
  have hbA := hb0.trans (hbW.mono (by omega))
  rw [hzV] at hc hlW
  clear hge hzV
  ((with_reducible refine (oneI _ _ _ _ _ hc (by omega) (by decide) (by decide)).mono ?_); rintro e w1 ⟨b, rfl, hc1, hg1⟩)
  have hR2 := hR1.gb hg1 (by omega) (by omega)
  have hb1 : Below w.heap.size w w1 := hbA.trans ((hg1.mono (show w.heap.size ≤ W.heap.size by omega)).below (by omega))
  have hz1 := hg1.size
  have hlR := hR2.lt
  clear hR hb0 h h1 hc hbW hR1 hbA hg1
  cases b
  · go_wp2_with fail
    ((with_reducible refine (drawStalk_any _ _ _ _ 16 hc1 (by omega) (by decide) (by decide)).mono ?_); rintro e w2 ⟨s, rfl, hs, hc2, hg2⟩)
    have hR3 := hR2.gb hg2 (by omega) (by omega)
    have hb2 : Below w.heap.size w w2 := hb1.trans ((hg2.mono (show w.heap.size ≤ w1.heap.size by omega)).below (by omega))
    have hlR3 := hR3.lt
    clear hR2 hb1 hc1 hc2 hg2
    have hval := valS_any s (by unfold maxLen; omega) w2
    unfold vdy at hval
    generalize (valF s).1 = t at *
    generalize (valF s).2.1 = p at *
    generalize (valF s).2.2 = k at *
    have HV := Lib.hid hval
    clear hval
    go_wp2_with fail
    ((with_reducible refine (HV.out).mono ?_); rintro e w3 ⟨rfl, hb3⟩)
    have hR4 := hR3.below hb3 hlR3
    have hb4 := hb2.trans (hb3.mono (by omega))
    have hlR4 := hR4.lt
    have HB4 := Lib.hid hb4
    clear hR3 hb2 hb3 hb4
    have hD := Blk.new w3 44 #[.int .i64 t, .int .i64 p]
    have hR5 := hR4.alloc (.cells #[.int .i64 t, .int .i64 p] 44)
    have d0 : (w3.alloc (.cells #[.int .i64 t, .int .i64 p] 44)).cell? ⟨w3.heap.size, 0, none⟩ = some (.int .i64 t) := hD.cell 0
    have d1 : (w3.alloc (.cells #[.int .i64 t, .int .i64 p] 44)).cell? ⟨w3.heap.size, 1, none⟩ = some (.int .i64 p) := hD.cell 1
    have r0 : (w3.alloc (.cells #[.int .i64 t, .int .i64 p] 44)).cell? ⟨w.heap.size, 0, none⟩ = some (.int .i64 0) := hR5.cell 0
    have r1 : (w3.alloc (.cells #[.int .i64 t, .int .i64 p] 44)).cell? ⟨w.heap.size, 1, none⟩ = some (.int .i64 0) := hR5.cell 1
    have q0 := hR5.frozen 0
    have q1 := hR5.frozen 1
    have q0' := hR4.frozen 0
    have q1' := hR4.frozen 1
    have r0' : w3.cell? ⟨w.heap.size, 0, none⟩ = some (.int .i64 0) := hR4.cell 0
    have r1' : w3.cell? ⟨w.heap.size, 1, none⟩ = some (.int .i64 0) := hR4.cell 1
    have hF : Blk (((w3.setCell ⟨w.heap.size, 0, none⟩ (.int .i64 t)).setCell ⟨w.heap.size, 1, none⟩ (.int .i64 p)).alloc (.cells #[.int .i64 t, .int .i64 p] 44)) w.heap.size 44 #[.int .i64 t, .int .i64 p] := ((hR4.set 0 _).set 1 _).alloc _
    have f0 : (((w3.setCell ⟨w.heap.size, 0, none⟩ (.int .i64 t)).setCell ⟨w.heap.size, 1, none⟩ (.int .i64 p)).alloc (.cells #[.int .i64 t, .int .i64 p] 44)).cell? ⟨w.heap.size, 0, none⟩ = some (.int .i64 t) := hF.cell 0
    have f1 : (((w3.setCell ⟨w.heap.size, 0, none⟩ (.int .i64 t)).setCell ⟨w.heap.size, 1, none⟩ (.int .i64 p)).alloc (.cells #[.int .i64 t, .int .i64 p] 44)).cell? ⟨w.heap.size, 1, none⟩ = some (.int .i64 p) := hF.cell 1
    have F0 := Lib.hid f0; have F1 := Lib.hid f1
    clear hR4 hF f0 f1
    go_wp2
    have f0 := F0.out; have f1 := F1.out
    exact bodyPost_ret (v := .agg #[.int .i64 t, .int .i64 p]) (by simp only [results, Tryd.results30]; simp [go_sem, f0, f1]) rfl ⟨t, p, rfl, ((HB4.out.setCell (Nat.le_refl _) _).setCell (Nat.le_refl _) _).alloc (by simp; omega) _⟩
  · go_wp2_with fail
    ((with_reducible refine (anyDyadic_any _ _ _ _ hc1 (by omega)).mono ?_); rintro e w2 ⟨t, p, rfl, hc2, hg2⟩)
    have hR3 := hR2.gb hg2 (by omega) (by omega)
    have hb2 : Below w.heap.size w w2 := hb1.trans ((hg2.mono (show w.heap.size ≤ w1.heap.size by omega)).below (by omega))
    have HB2 := Lib.hid hb2
    have r0 : w2.cell? ⟨w.heap.size, 0, none⟩ = some (.int .i64 0) := hR3.cell 0
    have r1 : w2.cell? ⟨w.heap.size, 1, none⟩ = some (.int .i64 0) := hR3.cell 1
    have q0 := hR3.frozen 0
    have q1 := hR3.frozen 1
    clear hR2 hb1 hc1 hc2 hg2 hb2
    go_wp2
    exact bodyPost_ret (v := .agg #[.int .i64 t, .int .i64 p]) (by simp [results, Tryd.results30, go_sem, r0, r1]) rfl ⟨t, p, rfl, (HB2.out.setCell (Nat.le_refl _) _).setCell (Nat.le_refl _) _⟩

set_option maxHeartbeats 800000 in
theorem negDyI_any (t p : Int) (w : World) (hg : goodDyB t p = true) :
    Calls Tryd.prog 35 #[.agg #[.int .i64 t, .int .i64 p]] w fun e w' => e = .returned (vdy (-t) p true) ∧ Below w.heap.size w w' := by
  have hg' := hg
  unfold goodDyB at hg'
  simp at hg'
  obtain ⟨a1, a2, -⟩ := hg'
  have hgd := fun W => goodDyI_any t p W
  rw [hg] at hgd
  have HGD := Lib.hid hgd
  clear hgd hg
  go_enter Tryd.func35, Tryd.ntmps35
  go_wp2_with fail
  have hB2 := box2 w 44 44 #[.int .i64 t, .int .i64 p] #[.int .i64 0, .int .i64 0]
  generalize (w.alloc (.cells #[.int .i64 t, .int .i64 p] 44)).alloc (.cells #[.int .i64 0, .int .i64 0] 44) = W at *
  obtain ⟨b0, b1, hbW, hzW⟩ := hB2
  ((with_reducible refine (HGD.out _).mono ?_); rintro e w1 ⟨rfl, hb1⟩)
  have b01 := b0.below hb1 (by omega)
  have b11 := b1.below hb1 (by omega)
  have h11 := hbW.trans (hb1.mono (by omega))
  have s0 : w1.cell? ⟨w.heap.size, 0, none⟩ = some (.int .i64 (t)) := Blk.cell b01 0
  have s1 : w1.cell? ⟨w.heap.size, 1, none⟩ = some (.int .i64 (p)) := Blk.cell b01 1
  have sf0 : w1.frozen? ⟨w.heap.size, 0, none⟩ = false := Blk.frozen b01 0
  have sf1 : w1.frozen? ⟨w.heap.size, 1, none⟩ = false := Blk.frozen b01 1
  have r0 : w1.cell? ⟨w.heap.size + 1, 0, none⟩ = some (.int .i64 (0)) := Blk.cell b11 0
  have r1 : w1.cell? ⟨w.heap.size + 1, 1, none⟩ = some (.int .i64 (0)) := Blk.cell b11 1
  have rf0 : w1.frozen? ⟨w.heap.size + 1, 0, none⟩ = false := Blk.frozen b11 0
  have rf1 : w1.frozen? ⟨w.heap.size + 1, 1, none⟩ = false := Blk.frozen b11 1
  have HW := Lib.hid h11
  clear b0 b1 hb1 h11 b01 b11 hbW
  have hw1 : wrap64 (-t) = -t := by unfold wrap64; omega
  go_wp2
  exact bodyPost_ret (v := vdy (-t) p true) (by simp [vdy, results, Tryd.results35, go_sem, r0, r1]) rfl ⟨rfl, (HW.out.setCell (by dsimp only; omega) _).setCell (by dsimp only; omega) _⟩

theorem turn2 {s : ByteArray} (hs : signsB s 16 = true) (hg : stripB 2 s = true) : str (turnL 2 s) = str (s.data.toList.map (swp 76 82)) := by
  have h : allIn [76, 82] s = true := by unfold signsB at hs; simp only [Bool.and_eq_true] at hs; exact hs.1
  rw [turnL, if_pos hg, if_neg (by decide)]
  rw [map_in (f := oth) (g := swp 76 82) (fun b hb => ?_) h]
  simp at hb
  rcases hb with rfl | rfl <;> decide
theorem valF_signs {s : ByteArray} (h : (valF s).2.2 = true) : signsB s 16 = true := by
  unfold valF at h
  split at h
  · rename_i hc; exact hc.1
  · simp at h

theorem stalkOfV_size (t p : Int) : (stalkOfV t p).1.size ≤ maxLen := by
  unfold stalkOfV
  split
  · split
    · rename_i n hf
      rw [List.find?_range_eq_some] at hf
      obtain ⟨f1, f2, f3⟩ := hf
      have hn : n < 17 := by simpa using f2
      rw [stB_size, stk_len]
      unfold maxLen
      omega
    · show 0 ≤ maxLen; unfold maxLen; omega
  · show 0 ≤ maxLen; unfold maxLen; omega

set_option maxRecDepth 100000 in
set_option maxHeartbeats 6400000 in
theorem lawStalks (a : Option Addr) (len cap : Nat) (zs : List Int) (w : World) (h : IsRow .u8 w a len cap zs) :
    Calls Tryd.prog 5 #[.slice a len cap] w fun e w' => e = .returned (.bool true) ∧ Below w.heap.size w w' := by
  obtain ⟨hr, hl⟩ := h.rdY
  clear h
  generalize zs.take len = bs at hr hl
  subst hl
  have hbl := hr.1.len
  have hbm := hr.1.max
  rw [byts_len] at hbl
  have hmx : bs.length ≤ 9223372036854775807 := by omega
  by_cases hbig : 65536 < bs.length
  · go_enter Tryd.func5, Tryd.ntmps5
    go_wp2_with (go_at_call 23; (with_reducible refine (rBig_any _ _ _ _ hmx).mono ?_); rintro e w1 ⟨rfl, rfl⟩)
    go_ret
    exact ⟨rfl, Below.refl _ _⟩
  · have hbI : ¬ (65536 : Int) < (bs.length : Int) := by omega
    have hb65 : bs.length ≤ 65536 := by omega
    go_enter Tryd.func5, Tryd.ntmps5
    go_wp2_with fail
    ((with_reducible refine (rBig_any _ _ _ _ hmx).mono ?_); rintro e w1 ⟨rfl, rfl⟩)
    have HDR := Lib.hid (drawStalkValue_any a cap bs _ hr)
    have HRY := Lib.hid hr
    clear hr hbig hmx hbl hbm
    go_wp2_with fail
    ((with_reducible refine (HDR.out).mono ?_); rintro e w2 ⟨s, rfl, hs, hb2⟩)
    have hsm : s.size ≤ maxLen := by unfold maxLen; omega
    obtain ⟨x, hx⟩ : ∃ x, x = (valF s).1 := ⟨_, rfl⟩
    obtain ⟨y, hy⟩ : ∃ y, y = (valF s).2.1 := ⟨_, rfl⟩
    obtain ⟨k, hk⟩ : ∃ k, k = (valF s).2.2 := ⟨_, rfl⟩
    have HI : Hid (∀ W, Calls Tryd.prog 28 #[.string s] W fun e w' => e = .returned (.tuple #[.agg #[.int .i64 x, .int .i64 y], .bool k]) ∧ Below W.heap.size W w') := fun W => by rw [hx, hy, hk]; exact valI_any s hsm W
    have HS : Hid (∀ W, Calls Tryd.prog 29 #[.string s] W fun e w' => e = .returned (.tuple #[.agg #[.int .i64 x, .int .i64 y], .bool k]) ∧ Below W.heap.size W w') := fun W => by rw [hx, hy, hk]; exact valS_any s hsm W
    have HX := Lib.hid hx; have HY := Lib.hid hy; have HK := Lib.hid hk
    clear hx hy hk
    go_wp2_with fail
    ((with_reducible refine (HI.out _).mono ?_); rintro e w3 ⟨rfl, hb3⟩)
    have g3 := gtr hb2 hb3
    have hP := Blk.new w3 44 #[.int .i64 x, .int .i64 y]
    have hbV := bel1 w3 (.cells #[.int .i64 x, .int .i64 y] 44)
    have gV := gtr g3 hbV
    go_wp2_with fail
    obtain ⟨P4, hP4⟩ : ∃ P4, P4 = w3.heap.size := ⟨_, rfl⟩
    rw [← hP4] at hP ⊢
    generalize w3.alloc (.cells #[.int .i64 x, .int .i64 y] 44) = V at *
    ((with_reducible refine (HS.out _).mono ?_); rintro e w4 ⟨rfl, hb4⟩)
    have hP1 := hP.below hb4 hP.lt
    have g4 := gtr gV hb4
    clear hb2 hb3 g3 hbV gV hb4 hP hP4
    have c0 : ∀ o, (w4.alloc o).cell? ⟨P4, 0, none⟩ = some (.int .i64 x) := fun o => (hP1.alloc o).cell 0
    have c1 : ∀ o, (w4.alloc o).cell? ⟨P4, 1, none⟩ = some (.int .i64 y) := fun o => (hP1.alloc o).cell 1
    go_wp2_with fail
    obtain ⟨P6, hP6⟩ : ∃ P6, P6 = w4.heap.size := ⟨_, rfl⟩
    have hQ := Blk.new w4 44 #[.int .i64 x, .int .i64 y]
    have hP2 := hP1.alloc (.cells #[.int .i64 x, .int .i64 y] 44)
    have g5 := gtr g4 (bel1 w4 (.cells #[.int .i64 x, .int .i64 y] 44))
    have hPQ : P4 < P6 := by rw [hP6]; exact hP1.lt
    rw [← hP6] at hQ ⊢
    generalize w4.alloc (.cells #[.int .i64 x, .int .i64 y] 44) = W5 at *
    clear c0 c1 hP1 hP6 g4
    have HCUT := Lib.hid (rCut_any a cap bs W5 (HRY.out.below g5) hb65)
    go_wp2_with fail
    ((with_reducible refine (HCUT.out).mono ?_); rintro e w6 ⟨A2, c2, bs2, rfl, hr2, hb6, hb70⟩)
    have g6 := gtr g5 hb6
    have hP3 := hP2.below hb6 hP2.lt
    have HDO := Lib.hid (drawStalkOf_any A2 c2 bs2 w6 hr2)
    clear HCUT hb6 hr2 hP2 hQ g5 HDR HRY
    go_wp2_with fail
    ((with_reducible refine (HDO.out).mono ?_); rintro e w7 ⟨t, p, rfl, hb7⟩)
    have g7 := gtr g6 hb7
    have hP4 := hP3.below hb7 hP3.lt
    clear HDO hb7 hP3 g6
    obtain ⟨r, hrr⟩ : ∃ r, r = (stalkOfV t p).1 := ⟨_, rfl⟩
    obtain ⟨oa, hoa⟩ : ∃ oa, oa = (stalkOfV t p).2 := ⟨_, rfl⟩
    have HJ : Hid (∀ W, Calls Tryd.prog 32 #[.agg #[.int .i64 t, .int .i64 p]] W fun e w' => e = .returned (.tuple #[.string r, .bool oa]) ∧ Below W.heap.size W w') := fun W => by rw [hrr, hoa]; exact stalkOfI_all t p W
    have HT : Hid (∀ W, Calls Tryd.prog 33 #[.agg #[.int .i64 t, .int .i64 p]] W fun e w' => e = .returned (.tuple #[.string r, .bool oa]) ∧ Below W.heap.size W w') := fun W => by rw [hrr, hoa]; exact stalkOfS_all t p W
    have hrm : r.size ≤ maxLen := by rw [hrr]; exact stalkOfV_size t p
    have HRR := Lib.hid hrr; have HOA := Lib.hid hoa
    clear hrr hoa
    have hR := Blk.new w7 44 #[.int .i64 t, .int .i64 p]
    have hP5 := hP4.alloc (.cells #[.int .i64 t, .int .i64 p] 44)
    have g8 := gtr g7 (bel1 w7 (.cells #[.int .i64 t, .int .i64 p] 44))
    have d0 : (w7.alloc (.cells #[.int .i64 t, .int .i64 p] 44)).cell? ⟨w7.heap.size, 0, none⟩ = some (.int .i64 t) := hR.cell 0
    have d1 : (w7.alloc (.cells #[.int .i64 t, .int .i64 p] 44)).cell? ⟨w7.heap.size, 1, none⟩ = some (.int .i64 p) := hR.cell 1
    go_wp2_with fail
    obtain ⟨P8, hP8⟩ : ∃ P8, P8 = w7.heap.size := ⟨_, rfl⟩
    have hPR : P4 < P8 := by rw [hP8]; exact hP4.lt
    clear d0 d1
    rw [← hP8] at hR ⊢
    generalize w7.alloc (.cells #[.int .i64 t, .int .i64 p] 44) = W8 at *
    clear hP8 hP4 g7
    ((with_reducible refine (HJ.out _).mono ?_); rintro e w9 ⟨rfl, hb9⟩)
    have g9 := gtr g8 hb9
    have hP6 := hP5.below hb9 hP5.lt
    have hR6 := hR.below hb9 hR.lt
    clear hb9 hP5 hR g8
    have d0 : w9.cell? ⟨P8, 0, none⟩ = some (.int .i64 t) := hR6.cell 0
    have d1 : w9.cell? ⟨P8, 1, none⟩ = some (.int .i64 p) := hR6.cell 1
    go_wp2_with fail
    clear d0 d1
    ((with_reducible refine (HT.out _).mono ?_); rintro e w10 ⟨rfl, hb10⟩)
    have g10 := gtr g9 hb10
    have hP7 := hP6.below hb10 hP6.lt
    have hR7 := hR6.below hb10 hR6.lt
    clear hb10 hP6 hR6 g9
    cases oa
    · skip
      cases k
      · go_wp2
        refine bodyPost_ret (v := .bool true) (by simp [results, Tryd.results5, go_sem]) rfl ⟨rfl, g10⟩
      · have HB : Hid (∀ W, Calls Tryd.prog 32 #[.agg #[.int .i64 x, .int .i64 y]] W fun e w' => e = .returned (.tuple #[.string s, .bool true]) ∧ Below W.heap.size W w') := fun W => by
          have hk : (valF s).2.2 = true := HK.out.symm
          have := stalkOfI_all x y W
          rw [HX.out, HY.out] at this ⊢
          rw [stalkOf_valF hk] at this
          exact this
        have HTU := Lib.hid (fun W => turnI_any 2 s W hsm)
        have HTV : Hid (stripB 2 s = true → ∀ W, Calls Tryd.prog 28 #[.string (str (turnL 2 s))] W fun e w' => e = .returned (.tuple #[.agg #[.int .i64 (-x), .int .i64 y], .bool true]) ∧ Below W.heap.size W w') := fun hst W => by
          have hk : (valF s).2.2 = true := HK.out.symm
          have ht := turn2 (valF_signs hk) hst
          have hv := valF_neg hk ht
          have := valI_any (str (turnL 2 s)) (by rw [ht, str_size, List.length_map, data_len]; exact hsm) W
          rw [hv] at this
          rw [HX.out, HY.out]
          exact this
        have HNG : Hid (∀ W, Calls Tryd.prog 35 #[.agg #[.int .i64 x, .int .i64 y]] W fun e w' => e = .returned (.tuple #[.agg #[.int .i64 (-x), .int .i64 y], .bool true]) ∧ Below W.heap.size W w') := fun W => by
          have hk : (valF s).2.2 = true := HK.out.symm
          obtain ⟨l, h1, h2, q, h3, h4, h5, h6, h7⟩ := valF_yes hk
          rw [HX.out, HY.out, h3]
          exact negDyI_any _ _ W h5
        generalize turnL 2 s = tu at *
        generalize stripB 2 s = st at *
        clear HI HS HJ HT HRR HOA HX HY HK
        have c0 := bc0 hP7
        have c1 := bc1 hP7
        go_wp2_with fail
        clear c0 c1
        ((with_reducible refine (HB.out _).mono ?_); rintro e wa ⟨rfl, hba⟩)
        have ga := gtr g10 hba
        have hPa := hP7.below hba hP7.lt
        clear hba hP7 g10
        go_wp2_with fail
        ((with_reducible refine (HTU.out _).mono ?_); rintro e wb ⟨rfl, hbb⟩)
        have gb := gtr ga hbb
        have hPb := hPa.below hbb hPa.lt
        clear hbb hPa ga HTU HB
        cases st
        · go_wp2
          refine bodyPost_ret (v := .bool true) (by simp [results, Tryd.results5, go_sem]) rfl ⟨rfl, gb⟩
        · have HTW : Hid (∀ W, Calls Tryd.prog 28 #[.string (str tu)] W fun e w' => e = .returned (.tuple #[.agg #[.int .i64 (-x), .int .i64 y], .bool true]) ∧ Below W.heap.size W w') := HTV.out rfl
          clear HTV
          go_wp2_with fail
          ((with_reducible refine (HTW.out _).mono ?_); rintro e wc ⟨rfl, hbc⟩)
          have gc := gtr gb hbc
          have hPc := hPb.below hbc hPb.lt
          clear hbc hPb gb HTW
          have hS := Blk.new wc 44 #[.int .i64 (-x), .int .i64 y]
          have hPd := hPc.alloc (.cells #[.int .i64 (-x), .int .i64 y] 44)
          have gd := gtr gc (bel1 wc (.cells #[.int .i64 (-x), .int .i64 y] 44))
          obtain ⟨P9, hP9⟩ : ∃ P9, P9 = wc.heap.size := ⟨_, rfl⟩
          have c0 := bc0 hPd
          have c1 := bc1 hPd
          go_wp2_with fail
          clear c0 c1
          rw [← hP9] at hS ⊢
          generalize wc.alloc (.cells #[.int .i64 (-x), .int .i64 y] 44) = Wd at *
          clear hP9 hPc gc
          ((with_reducible refine (HNG.out _).mono ?_); rintro e we ⟨rfl, hbe⟩)
          have ge := gtr gd hbe
          have hSe := hS.below hbe hS.lt
          have hU := Blk.new we 44 #[.int .i64 (-x), .int .i64 y]
          have hSf := hSe.alloc (.cells #[.int .i64 (-x), .int .i64 y] 44)
          have gf := gtr ge (bel1 we (.cells #[.int .i64 (-x), .int .i64 y] 44))
          have c0 := bc0 hSf
          have c1 := bc1 hSf
          have d0 := bc0 hU
          have d1 := bc1 hU
          clear hbe ge hS hSe hPd gd
          go_wp2
          refine bodyPost_ret (v := .bool true) (by simp [results, Tryd.results5, go_sem]) rfl ⟨rfl, gf⟩
    · have HZ : Hid (∀ W, Calls Tryd.prog 28 #[.string r] W fun e w' => e = .returned (.tuple #[.agg #[.int .i64 t, .int .i64 p], .bool true]) ∧ Below W.heap.size W w') := fun W => by
        have hk : (stalkOfV t p).2 = true := HOA.out.symm
        have := valI_any r hrm W
        rw [show valF r = (t, p, true) by rw [HRR.out]; exact valF_stalkOf hk] at this
        exact this
      go_wp2_with fail
      ((with_reducible refine (HZ.out _).mono ?_); rintro e w11 ⟨rfl, hb11⟩)
      have g11 := gtr g10 hb11
      have hP8 := hP7.below hb11 hP7.lt
      have hR8 := hR7.below hb11 hR7.lt
      have hP9 := hP8.alloc (.cells #[.int .i64 t, .int .i64 p] 44)
      have hR9 := hR8.alloc (.cells #[.int .i64 t, .int .i64 p] 44)
      have hX9 := Blk.new w11 44 #[.int .i64 t, .int .i64 p]
      have g12 := gtr g11 (bel1 w11 (.cells #[.int .i64 t, .int .i64 p] 44))
      have e0 := bc0 hR9
      have e1 := bc1 hR9
      have d0 := bc0 hX9
      have d1 := bc1 hX9
      clear hb11 hP7 hR7 hP8 hR8 hR9 hX9 g10 g11 HZ
      cases k
      · go_wp2
        refine bodyPost_ret (v := .bool true) (by simp [results, Tryd.results5, go_sem]) rfl ⟨rfl, g12⟩
      · have HB : Hid (∀ W, Calls Tryd.prog 32 #[.agg #[.int .i64 x, .int .i64 y]] W fun e w' => e = .returned (.tuple #[.string s, .bool true]) ∧ Below W.heap.size W w') := fun W => by
          have hk : (valF s).2.2 = true := HK.out.symm
          have := stalkOfI_all x y W
          rw [HX.out, HY.out] at this ⊢
          rw [stalkOf_valF hk] at this
          exact this
        have HTU := Lib.hid (fun W => turnI_any 2 s W hsm)
        have HTV : Hid (stripB 2 s = true → ∀ W, Calls Tryd.prog 28 #[.string (str (turnL 2 s))] W fun e w' => e = .returned (.tuple #[.agg #[.int .i64 (-x), .int .i64 y], .bool true]) ∧ Below W.heap.size W w') := fun hst W => by
          have hk : (valF s).2.2 = true := HK.out.symm
          have ht := turn2 (valF_signs hk) hst
          have hv := valF_neg hk ht
          have := valI_any (str (turnL 2 s)) (by rw [ht, str_size, List.length_map, data_len]; exact hsm) W
          rw [hv] at this
          rw [HX.out, HY.out]
          exact this
        have HNG : Hid (∀ W, Calls Tryd.prog 35 #[.agg #[.int .i64 x, .int .i64 y]] W fun e w' => e = .returned (.tuple #[.agg #[.int .i64 (-x), .int .i64 y], .bool true]) ∧ Below W.heap.size W w') := fun W => by
          have hk : (valF s).2.2 = true := HK.out.symm
          obtain ⟨l, h1, h2, q, h3, h4, h5, h6, h7⟩ := valF_yes hk
          rw [HX.out, HY.out, h3]
          exact negDyI_any _ _ W h5
        generalize turnL 2 s = tu at *
        generalize stripB 2 s = st at *
        clear HI HS HJ HT HRR HOA HX HY HK
        have c0 := bc0 hP9
        have c1 := bc1 hP9
        go_wp2_with fail
        clear c0 c1
        ((with_reducible refine (HB.out _).mono ?_); rintro e wa ⟨rfl, hba⟩)
        have ga := gtr g12 hba
        have hPa := hP9.below hba hP9.lt
        clear hba hP9 g12
        go_wp2_with fail
        ((with_reducible refine (HTU.out _).mono ?_); rintro e wb ⟨rfl, hbb⟩)
        have gb := gtr ga hbb
        have hPb := hPa.below hbb hPa.lt
        clear hbb hPa ga HTU HB
        cases st
        · go_wp2
          refine bodyPost_ret (v := .bool true) (by simp [results, Tryd.results5, go_sem]) rfl ⟨rfl, gb⟩
        · have HTW : Hid (∀ W, Calls Tryd.prog 28 #[.string (str tu)] W fun e w' => e = .returned (.tuple #[.agg #[.int .i64 (-x), .int .i64 y], .bool true]) ∧ Below W.heap.size W w') := HTV.out rfl
          clear HTV
          go_wp2_with fail
          ((with_reducible refine (HTW.out _).mono ?_); rintro e wc ⟨rfl, hbc⟩)
          have gc := gtr gb hbc
          have hPc := hPb.below hbc hPb.lt
          clear hbc hPb gb HTW
          have hS := Blk.new wc 44 #[.int .i64 (-x), .int .i64 y]
          have hPd := hPc.alloc (.cells #[.int .i64 (-x), .int .i64 y] 44)
          have gd := gtr gc (bel1 wc (.cells #[.int .i64 (-x), .int .i64 y] 44))
          obtain ⟨P9, hP9⟩ : ∃ P9, P9 = wc.heap.size := ⟨_, rfl⟩
          have c0 := bc0 hPd
          have c1 := bc1 hPd
          go_wp2_with fail
          clear c0 c1
          rw [← hP9] at hS ⊢
          generalize wc.alloc (.cells #[.int .i64 (-x), .int .i64 y] 44) = Wd at *
          clear hP9 hPc gc
          ((with_reducible refine (HNG.out _).mono ?_); rintro e we ⟨rfl, hbe⟩)
          have ge := gtr gd hbe
          have hSe := hS.below hbe hS.lt
          have hU := Blk.new we 44 #[.int .i64 (-x), .int .i64 y]
          have hSf := hSe.alloc (.cells #[.int .i64 (-x), .int .i64 y] 44)
          have gf := gtr ge (bel1 we (.cells #[.int .i64 (-x), .int .i64 y] 44))
          have c0 := bc0 hSf
          have c1 := bc1 hSf
          have d0 := bc0 hU
          have d1 := bc1 hU
          clear hbe ge hS hSe hPd gd
          go_wp2
          refine bodyPost_ret (v := .bool true) (by simp [results, Tryd.results5, go_sem]) rfl ⟨rfl, gf⟩
end Go.Proofs.YtadljglcbieifaaDoor
