/- The number of a stalk, by the reference: contract. Conditions: none. -/
import Derived.Test.YtadljglcbieifaaDoorDy1
import Derived.Test.YtadljglcbieifaaDoorBytes
import Derived.Deep.QuietTactic
import Derived.BigQuiet
namespace Go.Proofs.YtadljglcbieifaaDoor
open Go.RowKit
set_option linter.unusedVariables false

def enc (b : Bool) : UInt8 := if b then 76 else 82
/-- The text of signs. -/
def stB (l : List Bool) : ByteArray := str (l.map enc)
theorem stB_size (l : List Bool) : (stB l).size = l.length := by rw [stB, str_size, List.length_map]
theorem stB_at (l : List Bool) (k : Nat) (h : k < (stB l).size) : (stB l)[k] = enc (sg l k) := by
  have h1 := data_at (stB l) k h
  have h0 : (stB l).data.toList = l.map enc := str_data _
  rw [h0, List.getElem?_map] at h1
  have hk : k < l.length := by rwa [stB_size] at h
  rw [List.getElem?_eq_getElem hk] at h1
  have h2 : sg l k = l[k] := by unfold sg; rw [List.getD_eq_getElem?_getD, List.getElem?_eq_getElem hk]; rfl
  rw [h2]
  have h3 : some (enc l[k]) = some ((stB l)[k]) := h1
  injection h3 with h3
  exact h3.symm
theorem enc_L (l : List Bool) (k : Nat) (h : k < (stB l).size) : ((((stB l)[k]).toNat : Int) == 76) = sg l k := by
  rw [stB_at]; cases sg l k <;> rfl
theorem enc_R (l : List Bool) (k : Nat) (h : k < (stB l).size) : ((((stB l)[k]).toNat : Int) == 82) = !sg l k := by
  rw [stB_at]; cases sg l k <;> rfl
theorem enc_ne (l : List Bool) (j k : Nat) (h : j < (stB l).size) (h' : k < (stB l).size) : ((((stB l)[j]).toNat : Int) != (((stB l)[k]).toNat : Int)) = (sg l j != sg l k) := by
  rw [stB_at, stB_at]; cases sg l j <;> cases sg l k <;> rfl
theorem enc_eq (l : List Bool) (j k : Nat) (h : j < (stB l).size) (h' : k < (stB l).size) : ((((stB l)[j]).toNat : Int) == (((stB l)[k]).toNat : Int)) = (sg l j == sg l k) := by
  rw [stB_at, stB_at]; cases sg l j <;> cases sg l k <;> rfl
/-- Each text of these two marks is one of signs. -/
theorem stB_of (s : ByteArray) (h : allIn [76, 82] s = true) : s = stB (s.data.toList.map (· == 76)) := by
  refine str_of s ?_
  unfold allIn at h
  rw [List.map_map]
  symm
  refine (List.map_congr_left (g := id) fun b hb => ?_).trans (List.map_id _)
  rw [List.all_eq_true] at h
  have := h b hb
  simp only [List.contains_eq_mem, List.mem_cons, List.not_mem_nil, or_false, decide_eq_true_eq] at this
  rcases this with rfl | rfl <;> rfl
theorem vl_fits (l : List Bool) (k : Nat) (h : k ≤ 17) : Fits (vl l k) := by
  have := vl_bound l k
  unfold Fits
  omega

theorem add_step (l : List Bool) (k : Nat) (hk : k < 17) (t : Int) (ht : t = pm (sg l k)) (x1 : Int) (x2 : Nat) (hx : nf (vl l k) = (x1, x2)) (a : Int) (b : Nat) (hab : nf (vl l (k + 1)) = (a, b)) (pi : Int) (hpi : pi = (pw l k : Nat)) (W : World) :
    Calls Tryd.prog 141 #[.agg #[.int .i64 x1, .int .i64 x2], .agg #[.int .i64 t, .int .i64 pi]] W fun e w' => e = .returned (.agg #[.int .i64 a, .int .i64 b]) ∧ Below W.heap.size W w' := by
  subst hpi
  have h1 : x2 ≤ 24 := by have := nf_le (vl l k); rw [hx] at this; exact this
  have h2 : sc x1 x2 = vl l k := by have := sc_nf (vl l k); rw [hx] at this; exact this
  have h3 : sc x1 x2 + sc t (pw l k) = vl l (k + 1) := by rw [h2, ht]; rfl
  have hp := pw_le l k
  have h4 := l2Add_any x1 t x2 (pw l k) W h1 (by omega) (by rw [h2]; exact vl_fits l k (by omega))
    (sc_fits _ _ (by rw [ht]; cases sg l k <;> decide) (by rw [ht]; cases sg l k <;> decide)) (by rw [h3]; exact vl_fits l _ (by omega))
  rw [h3, hab] at h4
  exact h4

set_option maxRecDepth 100000 in
set_option maxHeartbeats 800000 in
theorem stalkS_any (l : List Bool) (w : World) (hl : l.length ≤ 17) :
    Calls Tryd.prog 83 #[.string (stB l)] w fun e w' => e = .returned (dyP (nf (vl l l.length))) ∧ Below w.heap.size w w' := by
  obtain ⟨s, hs, hsz, hR, hN⟩ : ∃ s : ByteArray, s = stB l ∧ s.size = l.length ∧ (∀ (k : Nat) (h : k < s.size), (((s[k]).toNat : Int) == 82) = !sg l k) ∧ (∀ (j k : Nat) (h : j < s.size) (h' : k < s.size), (((s[j]).toNat : Int) != ((s[k]).toNat : Int)) = (sg l j != sg l k)) :=
    ⟨stB l, rfl, stB_size l, enc_R l, enc_ne l⟩
  rw [← hs]
  clear hs
  have HSZ := Lib.hid hsz; have HR0 := Lib.hid hR; have HN0 := Lib.hid hN; clear hsz hR hN
  go_enter Tryd.func83, Tryd.ntmps83
  go_wp2
  have hB := box2 w 44 44 #[.int .i64 0, .int .i64 0] #[.int .i64 0, .int .i64 0]
  generalize (w.alloc (.cells #[.int .i64 0, .int .i64 0] 44)).alloc (.cells #[.int .i64 0, .int .i64 0] 44) = W at *
  obtain ⟨b1, b2, hbW, hzW⟩ := hB
  go_loopw [4, 5] (fun pv i wr => ∃ (k p0 x2 : Nat) (x1 : Int), i = .int .i64 k ∧ k ≤ l.length ∧ pv = .int .i64 p0 ∧ p0 = pwb l k ∧ nf (vl l k) = (x1, x2) ∧ Below w.heap.size w wr ∧ Blk wr w.heap.size 44 #[.int .i64 0, .int .i64 0] ∧
    Blk wr (w.heap.size + 1) 44 #[.int .i64 x1, .int .i64 x2]) (fun _ i _ => l.length - (intOf i).toNat)
  case atStart => exact ⟨0, 0, 0, 0, rfl, by omega, rfl, rfl, by show nf 0 = _; decide, hbW, b1, b2⟩
  case round =>
    clear b1 b2 hbW hzW
    obtain ⟨k, p0, x2, x1, rfl, hk, rfl, hp0, hx, hb, b1, b2⟩ := hrel
    have hz2 := b2.lt
    have hpb := pwb_le l k
    have hpk := pw_le l k
    have HX := Lib.hid hx; clear hx
    have hp0b : (p0 : Int) ≤ 20 := by omega
    have c0 : wr.cell? ⟨w.heap.size + 1, 0, none⟩ = some (.int .i64 x1) := Blk.cell b2 0
    have c1 : wr.cell? ⟨w.heap.size + 1, 1, none⟩ = some (.int .i64 x2) := Blk.cell b2 1
    by_cases hlt : k < l.length
    · have hks : k < s.size := by rw [HSZ.out]; exact hlt
      have HR : Hid ((((s[k]).toNat : Int) == 82) = !sg l k) := HR0.out k hks
      obtain ⟨a, b, hab⟩ : ∃ a b, nf (vl l (k + 1)) = (a, b) := ⟨_, _, rfl⟩
      have HAB := Lib.hid hab; clear hab
      by_cases h0 : 0 < k
      · have h0I : (0 : Int) < (k : Int) := by omega
        have hpw := pw_step l k h0
        have HNk := HN0.out k (k - 1) hks (by omega)
        by_cases hinc : 0 < p0
        · have hincI : (0 : Int) < (p0 : Int) := by omega
          have HPW : Hid ((p0 : Int) + 1 = (pw l k : Nat)) := by
            show _ = _
            rw [hpw, if_pos (.inl (by omega)), ← hp0]; omega
          clear hpw hp0 HNk
          go_wp2
          go_quiet (fail)
          have hbq : Below w.heap.size w (wr.drewN nq) := bdrew hb _
          have b1q : Blk (wr.drewN nq) w.heap.size 44 #[.int .i64 0, .int .i64 0] := b1
          have b2q : Blk (wr.drewN nq) (w.heap.size + 1) 44 #[.int .i64 x1, .int .i64 x2] := b2
          clear c0 c1 b1 b2 hb hz2
          generalize wr.drewN nq = wq at *
          have hz2 := b2q.lt
          have cq0 : wq.cell? ⟨w.heap.size + 1, 0, none⟩ = some (.int .i64 x1) := b2q.cell 0
          have cq1 : wq.cell? ⟨w.heap.size + 1, 1, none⟩ = some (.int .i64 x2) := b2q.cell 1
          have hnq1 : ¬ wq.heap.size = w.heap.size + 1 := by omega
          have hnq2 : ¬ w.heap.size + 1 = wq.heap.size := by omega
          have hkI : (0 : Int) ≤ (k : Int) := by omega
          have hkI2 : (k : Int) < (s.size : Int) := by omega
          have HPI : Hid (((p0 : Int) + 1 : Int) = (pw l k : Nat)) := HPW.out
          by_cases hsg : sg l k = true
          · have ht : (((s[k]).toNat : Int) == 82) = false := by rw [HR.out, hsg]; rfl
            have HA' : Hid (∀ W, _) := fun W => add_step l k (by omega) 1 (by rw [hsg]; rfl) x1 x2 HX.out a b HAB.out ((p0 : Int) + 1) HPI.out W
            clear hsg
            go_wp2_with fail
            have hb3 : Below w.heap.size w (wq.alloc (.cells #[.int .i64 1, .int .i64 ((p0 : Int) + 1)] 44)) := hbq.alloc (by omega) _
            have b13 := b1q.alloc (.cells #[.int .i64 1, .int .i64 ((p0 : Int) + 1)] 44)
            have b23 := b2q.alloc (.cells #[.int .i64 1, .int .i64 ((p0 : Int) + 1)] 44)
            have hz3 : (wq.alloc (.cells #[.int .i64 1, .int .i64 ((p0 : Int) + 1)] 44)).heap.size = wq.heap.size + 1 := by simp
            generalize wq.alloc (.cells #[.int .i64 1, .int .i64 ((p0 : Int) + 1)] 44) = V at *
            ((with_reducible refine (HA'.out _).mono ?_); rintro e w6 ⟨rfl, hb6⟩)
            have hz6 := hb6.size
            have b16 := b13.below hb6 (by omega)
            have b26 := b23.below hb6 (by omega)
            have y0 : w6.cell? ⟨w.heap.size + 1, 0, none⟩ = some (.int .i64 (x1)) := Blk.cell b26 0
            have y1 : w6.cell? ⟨w.heap.size + 1, 1, none⟩ = some (.int .i64 (x2)) := Blk.cell b26 1
            have yf0 : w6.frozen? ⟨w.heap.size + 1, 0, none⟩ = false := Blk.frozen b26 0
            have yf1 : w6.frozen? ⟨w.heap.size + 1, 1, none⟩ = false := Blk.frozen b26 1
            have HXX := HX; clear HR HX HA'
            go_wp2
            go_roundw
            case rel => exact ⟨k + 1, pw l k, b, a, by go_num, by omega, by rw [← HPI.out], rfl, HAB.out, ((hb3.trans (hb6.mono (by omega))).setCell (by simp; try omega) _).setCell (by simp; try omega) _, (b16.far (by simp) _).far (by simp) _, ((b26.set 0 (.int .i64 a)).set 1 (.int .i64 b))⟩
            case measure => simp [intOf]; omega
          · have hsf : sg l k = false := by simpa using hsg
            have ht : (((s[k]).toNat : Int) == 82) = true := by rw [HR.out, hsf]; rfl
            have HA' : Hid (∀ W, _) := fun W => add_step l k (by omega) (-1) (by rw [hsf]; rfl) x1 x2 HX.out a b HAB.out ((p0 : Int) + 1) HPI.out W
            clear hsg hsf
            go_wp2_with fail
            have hD := Blk.new wq 44 #[.int .i64 1, .int .i64 ((p0 : Int) + 1)]
            have hb3 : Below w.heap.size w (wq.alloc (.cells #[.int .i64 1, .int .i64 ((p0 : Int) + 1)] 44)) := hbq.alloc (by omega) _
            have b13 := b1q.alloc (.cells #[.int .i64 1, .int .i64 ((p0 : Int) + 1)] 44)
            have b23 := b2q.alloc (.cells #[.int .i64 1, .int .i64 ((p0 : Int) + 1)] 44)
            have hz3 : (wq.alloc (.cells #[.int .i64 1, .int .i64 ((p0 : Int) + 1)] 44)).heap.size = wq.heap.size + 1 := by simp
            generalize wq.alloc (.cells #[.int .i64 1, .int .i64 ((p0 : Int) + 1)] 44) = V at *
            ((with_reducible refine (l2Neg_any _ _ _ (by omega) (by omega)).mono ?_); rintro e w2 ⟨rfl, hb4⟩)
            have hz4 := hb4.size
            have hDn := hD.below hb4 (by omega)
            have b14 := b13.below hb4 (by omega)
            have b24 := b23.below hb4 (by omega)
            have d0 : w2.cell? ⟨wq.heap.size, 0, none⟩ = some (.int .i64 (1)) := Blk.cell hDn 0
            have d1 : w2.cell? ⟨wq.heap.size, 1, none⟩ = some (.int .i64 ((p0 : Int) + 1)) := Blk.cell hDn 1
            have df0 : w2.frozen? ⟨wq.heap.size, 0, none⟩ = false := Blk.frozen hDn 0
            have df1 : w2.frozen? ⟨wq.heap.size, 1, none⟩ = false := Blk.frozen hDn 1
            have x0 : w2.cell? ⟨w.heap.size + 1, 0, none⟩ = some (.int .i64 x1) := b24.cell 0
            have x1' : w2.cell? ⟨w.heap.size + 1, 1, none⟩ = some (.int .i64 x2) := b24.cell 1
            have hne1 : ¬ wq.heap.size = w.heap.size + 1 := by omega
            have hne2 : ¬ w.heap.size + 1 = wq.heap.size := by omega
            go_wp2_with fail
            have b25 := (b24.far (p := ⟨wq.heap.size, 0, none⟩) (by simp; omega) (.int .i64 (-1))).far (p := ⟨wq.heap.size, 1, none⟩) (by simp; omega) (.int .i64 ((p0 : Int) + 1))
            have b15 := (b14.far (p := ⟨wq.heap.size, 0, none⟩) (by simp; omega) (.int .i64 (-1))).far (p := ⟨wq.heap.size, 1, none⟩) (by simp; omega) (.int .i64 ((p0 : Int) + 1))
            have hb5 := ((hb3.trans (hb4.mono (by omega))).setCell (p := ⟨wq.heap.size, 0, none⟩) (by simp; omega) (.int .i64 (-1))).setCell (p := ⟨wq.heap.size, 1, none⟩) (by simp; omega) (.int .i64 ((p0 : Int) + 1))
            have hz5 : ((w2.setCell ⟨wq.heap.size, 0, none⟩ (.int .i64 (-1))).setCell ⟨wq.heap.size, 1, none⟩ (.int .i64 ((p0 : Int) + 1))).heap.size = w2.heap.size := by simp
            generalize (w2.setCell ⟨wq.heap.size, 0, none⟩ (.int .i64 (-1))).setCell ⟨wq.heap.size, 1, none⟩ (.int .i64 ((p0 : Int) + 1)) = V5 at *
            ((with_reducible refine (HA'.out _).mono ?_); rintro e w6 ⟨rfl, hb6⟩)
            have hz6 := hb6.size
            have b16 := b15.below hb6 (by omega)
            have b26 := b25.below hb6 (by omega)
            have y0 : w6.cell? ⟨w.heap.size + 1, 0, none⟩ = some (.int .i64 (x1)) := Blk.cell b26 0
            have y1 : w6.cell? ⟨w.heap.size + 1, 1, none⟩ = some (.int .i64 (x2)) := Blk.cell b26 1
            have yf0 : w6.frozen? ⟨w.heap.size + 1, 0, none⟩ = false := Blk.frozen b26 0
            have yf1 : w6.frozen? ⟨w.heap.size + 1, 1, none⟩ = false := Blk.frozen b26 1
            have HXX := HX; clear HR HX HA'
            go_wp2
            go_roundw
            case rel => exact ⟨k + 1, pw l k, b, a, by go_num, by omega, by rw [← HPI.out], rfl, HAB.out, ((hb5.trans (hb6.mono (by omega))).setCell (by simp; try omega) _).setCell (by simp; try omega) _, (b16.far (by simp) _).far (by simp) _, ((b26.set 0 (.int .i64 a)).set 1 (.int .i64 b))⟩
            case measure => simp [intOf]; omega
        · have hincI : ¬ (0 : Int) < (p0 : Int) := by omega
          have hkm : IntKind.i64.wrap ((k : Int) - 1) = (k : Int) - 1 := by rw [IntKind.wrap_i64]; omega
          have hkm0 : (0 : Int) ≤ (k : Int) - 1 := by omega
          have hkm1 : (k : Int) - 1 < (s.size : Int) := by omega
          have h1k : (1 : Int) ≤ (k : Int) := by omega
          have h1k2 : (k : Int) < (s.size : Int) + 1 := by omega
          have h1k3 : (k : Int) ≤ (s.size : Int) := by omega
          have h1k4 : 1 ≤ k := by omega
          have hkmn : ((k : Int) - 1).toNat = k - 1 := by omega
          have hkk : k - 1 < s.size := by omega
          by_cases hdf : sg l k = sg l (k - 1)
          · have ht2 : ((((s[k]).toNat : Int)) != ((s[k - 1]).toNat : Int)) = false := by rw [HNk, hdf]; simp
            have HPW : Hid ((p0 : Int) = (pw l k : Nat)) := by
              show _ = _
              rw [hpw, if_neg (by rintro (h | h); omega; exact h hdf), ← hp0]
            clear hpw hp0 HNk hdf
            go_wp2
            go_quiet (fail)
            have hbq : Below w.heap.size w (wr.drewN nq) := bdrew hb _
            have b1q : Blk (wr.drewN nq) w.heap.size 44 #[.int .i64 0, .int .i64 0] := b1
            have b2q : Blk (wr.drewN nq) (w.heap.size + 1) 44 #[.int .i64 x1, .int .i64 x2] := b2
            clear c0 c1 b1 b2 hb hz2
            generalize wr.drewN nq = wq at *
            have hz2 := b2q.lt
            have cq0 : wq.cell? ⟨w.heap.size + 1, 0, none⟩ = some (.int .i64 x1) := b2q.cell 0
            have cq1 : wq.cell? ⟨w.heap.size + 1, 1, none⟩ = some (.int .i64 x2) := b2q.cell 1
            have hnq1 : ¬ wq.heap.size = w.heap.size + 1 := by omega
            have hnq2 : ¬ w.heap.size + 1 = wq.heap.size := by omega
            have hkI : (0 : Int) ≤ (k : Int) := by omega
            have hkI2 : (k : Int) < (s.size : Int) := by omega
            have HPI : Hid (((p0 : Int) : Int) = (pw l k : Nat)) := HPW.out
            by_cases hsg : sg l k = true
            · have ht : (((s[k]).toNat : Int) == 82) = false := by rw [HR.out, hsg]; rfl
              have HA' : Hid (∀ W, _) := fun W => add_step l k (by omega) 1 (by rw [hsg]; rfl) x1 x2 HX.out a b HAB.out ((p0 : Int)) HPI.out W
              clear hsg
              go_wp2_with fail
              have hb3 : Below w.heap.size w (wq.alloc (.cells #[.int .i64 1, .int .i64 ((p0 : Int))] 44)) := hbq.alloc (by omega) _
              have b13 := b1q.alloc (.cells #[.int .i64 1, .int .i64 ((p0 : Int))] 44)
              have b23 := b2q.alloc (.cells #[.int .i64 1, .int .i64 ((p0 : Int))] 44)
              have hz3 : (wq.alloc (.cells #[.int .i64 1, .int .i64 ((p0 : Int))] 44)).heap.size = wq.heap.size + 1 := by simp
              generalize wq.alloc (.cells #[.int .i64 1, .int .i64 ((p0 : Int))] 44) = V at *
              ((with_reducible refine (HA'.out _).mono ?_); rintro e w6 ⟨rfl, hb6⟩)
              have hz6 := hb6.size
              have b16 := b13.below hb6 (by omega)
              have b26 := b23.below hb6 (by omega)
              have y0 : w6.cell? ⟨w.heap.size + 1, 0, none⟩ = some (.int .i64 (x1)) := Blk.cell b26 0
              have y1 : w6.cell? ⟨w.heap.size + 1, 1, none⟩ = some (.int .i64 (x2)) := Blk.cell b26 1
              have yf0 : w6.frozen? ⟨w.heap.size + 1, 0, none⟩ = false := Blk.frozen b26 0
              have yf1 : w6.frozen? ⟨w.heap.size + 1, 1, none⟩ = false := Blk.frozen b26 1
              have HXX := HX; clear HR HX HA'
              go_wp2
              go_roundw
              case rel => exact ⟨k + 1, pw l k, b, a, by go_num, by omega, by rw [← HPI.out], rfl, HAB.out, ((hb3.trans (hb6.mono (by omega))).setCell (by simp; try omega) _).setCell (by simp; try omega) _, (b16.far (by simp) _).far (by simp) _, ((b26.set 0 (.int .i64 a)).set 1 (.int .i64 b))⟩
              case measure => simp [intOf]; omega
            · have hsf : sg l k = false := by simpa using hsg
              have ht : (((s[k]).toNat : Int) == 82) = true := by rw [HR.out, hsf]; rfl
              have HA' : Hid (∀ W, _) := fun W => add_step l k (by omega) (-1) (by rw [hsf]; rfl) x1 x2 HX.out a b HAB.out ((p0 : Int)) HPI.out W
              clear hsg hsf
              go_wp2_with fail
              have hD := Blk.new wq 44 #[.int .i64 1, .int .i64 ((p0 : Int))]
              have hb3 : Below w.heap.size w (wq.alloc (.cells #[.int .i64 1, .int .i64 ((p0 : Int))] 44)) := hbq.alloc (by omega) _
              have b13 := b1q.alloc (.cells #[.int .i64 1, .int .i64 ((p0 : Int))] 44)
              have b23 := b2q.alloc (.cells #[.int .i64 1, .int .i64 ((p0 : Int))] 44)
              have hz3 : (wq.alloc (.cells #[.int .i64 1, .int .i64 ((p0 : Int))] 44)).heap.size = wq.heap.size + 1 := by simp
              generalize wq.alloc (.cells #[.int .i64 1, .int .i64 ((p0 : Int))] 44) = V at *
              ((with_reducible refine (l2Neg_any _ _ _ (by omega) (by omega)).mono ?_); rintro e w2 ⟨rfl, hb4⟩)
              have hz4 := hb4.size
              have hDn := hD.below hb4 (by omega)
              have b14 := b13.below hb4 (by omega)
              have b24 := b23.below hb4 (by omega)
              have d0 : w2.cell? ⟨wq.heap.size, 0, none⟩ = some (.int .i64 (1)) := Blk.cell hDn 0
              have d1 : w2.cell? ⟨wq.heap.size, 1, none⟩ = some (.int .i64 ((p0 : Int))) := Blk.cell hDn 1
              have df0 : w2.frozen? ⟨wq.heap.size, 0, none⟩ = false := Blk.frozen hDn 0
              have df1 : w2.frozen? ⟨wq.heap.size, 1, none⟩ = false := Blk.frozen hDn 1
              have x0 : w2.cell? ⟨w.heap.size + 1, 0, none⟩ = some (.int .i64 x1) := b24.cell 0
              have x1' : w2.cell? ⟨w.heap.size + 1, 1, none⟩ = some (.int .i64 x2) := b24.cell 1
              have hne1 : ¬ wq.heap.size = w.heap.size + 1 := by omega
              have hne2 : ¬ w.heap.size + 1 = wq.heap.size := by omega
              go_wp2_with fail
              have b25 := (b24.far (p := ⟨wq.heap.size, 0, none⟩) (by simp; omega) (.int .i64 (-1))).far (p := ⟨wq.heap.size, 1, none⟩) (by simp; omega) (.int .i64 ((p0 : Int)))
              have b15 := (b14.far (p := ⟨wq.heap.size, 0, none⟩) (by simp; omega) (.int .i64 (-1))).far (p := ⟨wq.heap.size, 1, none⟩) (by simp; omega) (.int .i64 ((p0 : Int)))
              have hb5 := ((hb3.trans (hb4.mono (by omega))).setCell (p := ⟨wq.heap.size, 0, none⟩) (by simp; omega) (.int .i64 (-1))).setCell (p := ⟨wq.heap.size, 1, none⟩) (by simp; omega) (.int .i64 ((p0 : Int)))
              have hz5 : ((w2.setCell ⟨wq.heap.size, 0, none⟩ (.int .i64 (-1))).setCell ⟨wq.heap.size, 1, none⟩ (.int .i64 ((p0 : Int)))).heap.size = w2.heap.size := by simp
              generalize (w2.setCell ⟨wq.heap.size, 0, none⟩ (.int .i64 (-1))).setCell ⟨wq.heap.size, 1, none⟩ (.int .i64 ((p0 : Int))) = V5 at *
              ((with_reducible refine (HA'.out _).mono ?_); rintro e w6 ⟨rfl, hb6⟩)
              have hz6 := hb6.size
              have b16 := b15.below hb6 (by omega)
              have b26 := b25.below hb6 (by omega)
              have y0 : w6.cell? ⟨w.heap.size + 1, 0, none⟩ = some (.int .i64 (x1)) := Blk.cell b26 0
              have y1 : w6.cell? ⟨w.heap.size + 1, 1, none⟩ = some (.int .i64 (x2)) := Blk.cell b26 1
              have yf0 : w6.frozen? ⟨w.heap.size + 1, 0, none⟩ = false := Blk.frozen b26 0
              have yf1 : w6.frozen? ⟨w.heap.size + 1, 1, none⟩ = false := Blk.frozen b26 1
              have HXX := HX; clear HR HX HA'
              go_wp2
              go_roundw
              case rel => exact ⟨k + 1, pw l k, b, a, by go_num, by omega, by rw [← HPI.out], rfl, HAB.out, ((hb5.trans (hb6.mono (by omega))).setCell (by simp; try omega) _).setCell (by simp; try omega) _, (b16.far (by simp) _).far (by simp) _, ((b26.set 0 (.int .i64 a)).set 1 (.int .i64 b))⟩
              case measure => simp [intOf]; omega
          · have ht2 : ((((s[k]).toNat : Int)) != ((s[k - 1]).toNat : Int)) = true := by rw [HNk]; simpa using hdf
            have HPW : Hid ((p0 : Int) + 1 = (pw l k : Nat)) := by
              show _ = _
              rw [hpw, if_pos (.inr hdf), ← hp0]; omega
            clear hpw hp0 HNk hdf
            go_wp2
            go_quiet (fail)
            have hbq : Below w.heap.size w (wr.drewN nq) := bdrew hb _
            have b1q : Blk (wr.drewN nq) w.heap.size 44 #[.int .i64 0, .int .i64 0] := b1
            have b2q : Blk (wr.drewN nq) (w.heap.size + 1) 44 #[.int .i64 x1, .int .i64 x2] := b2
            clear c0 c1 b1 b2 hb hz2
            generalize wr.drewN nq = wq at *
            have hz2 := b2q.lt
            have cq0 : wq.cell? ⟨w.heap.size + 1, 0, none⟩ = some (.int .i64 x1) := b2q.cell 0
            have cq1 : wq.cell? ⟨w.heap.size + 1, 1, none⟩ = some (.int .i64 x2) := b2q.cell 1
            have hnq1 : ¬ wq.heap.size = w.heap.size + 1 := by omega
            have hnq2 : ¬ w.heap.size + 1 = wq.heap.size := by omega
            have hkI : (0 : Int) ≤ (k : Int) := by omega
            have hkI2 : (k : Int) < (s.size : Int) := by omega
            have HPI : Hid (((p0 : Int) + 1 : Int) = (pw l k : Nat)) := HPW.out
            by_cases hsg : sg l k = true
            · have ht : (((s[k]).toNat : Int) == 82) = false := by rw [HR.out, hsg]; rfl
              have HA' : Hid (∀ W, _) := fun W => add_step l k (by omega) 1 (by rw [hsg]; rfl) x1 x2 HX.out a b HAB.out ((p0 : Int) + 1) HPI.out W
              clear hsg
              go_wp2_with fail
              have hb3 : Below w.heap.size w (wq.alloc (.cells #[.int .i64 1, .int .i64 ((p0 : Int) + 1)] 44)) := hbq.alloc (by omega) _
              have b13 := b1q.alloc (.cells #[.int .i64 1, .int .i64 ((p0 : Int) + 1)] 44)
              have b23 := b2q.alloc (.cells #[.int .i64 1, .int .i64 ((p0 : Int) + 1)] 44)
              have hz3 : (wq.alloc (.cells #[.int .i64 1, .int .i64 ((p0 : Int) + 1)] 44)).heap.size = wq.heap.size + 1 := by simp
              generalize wq.alloc (.cells #[.int .i64 1, .int .i64 ((p0 : Int) + 1)] 44) = V at *
              ((with_reducible refine (HA'.out _).mono ?_); rintro e w6 ⟨rfl, hb6⟩)
              have hz6 := hb6.size
              have b16 := b13.below hb6 (by omega)
              have b26 := b23.below hb6 (by omega)
              have y0 : w6.cell? ⟨w.heap.size + 1, 0, none⟩ = some (.int .i64 (x1)) := Blk.cell b26 0
              have y1 : w6.cell? ⟨w.heap.size + 1, 1, none⟩ = some (.int .i64 (x2)) := Blk.cell b26 1
              have yf0 : w6.frozen? ⟨w.heap.size + 1, 0, none⟩ = false := Blk.frozen b26 0
              have yf1 : w6.frozen? ⟨w.heap.size + 1, 1, none⟩ = false := Blk.frozen b26 1
              have HXX := HX; clear HR HX HA'
              go_wp2
              go_roundw
              case rel => exact ⟨k + 1, pw l k, b, a, by go_num, by omega, by rw [← HPI.out], rfl, HAB.out, ((hb3.trans (hb6.mono (by omega))).setCell (by simp; try omega) _).setCell (by simp; try omega) _, (b16.far (by simp) _).far (by simp) _, ((b26.set 0 (.int .i64 a)).set 1 (.int .i64 b))⟩
              case measure => simp [intOf]; omega
            · have hsf : sg l k = false := by simpa using hsg
              have ht : (((s[k]).toNat : Int) == 82) = true := by rw [HR.out, hsf]; rfl
              have HA' : Hid (∀ W, _) := fun W => add_step l k (by omega) (-1) (by rw [hsf]; rfl) x1 x2 HX.out a b HAB.out ((p0 : Int) + 1) HPI.out W
              clear hsg hsf
              go_wp2_with fail
              have hD := Blk.new wq 44 #[.int .i64 1, .int .i64 ((p0 : Int) + 1)]
              have hb3 : Below w.heap.size w (wq.alloc (.cells #[.int .i64 1, .int .i64 ((p0 : Int) + 1)] 44)) := hbq.alloc (by omega) _
              have b13 := b1q.alloc (.cells #[.int .i64 1, .int .i64 ((p0 : Int) + 1)] 44)
              have b23 := b2q.alloc (.cells #[.int .i64 1, .int .i64 ((p0 : Int) + 1)] 44)
              have hz3 : (wq.alloc (.cells #[.int .i64 1, .int .i64 ((p0 : Int) + 1)] 44)).heap.size = wq.heap.size + 1 := by simp
              generalize wq.alloc (.cells #[.int .i64 1, .int .i64 ((p0 : Int) + 1)] 44) = V at *
              ((with_reducible refine (l2Neg_any _ _ _ (by omega) (by omega)).mono ?_); rintro e w2 ⟨rfl, hb4⟩)
              have hz4 := hb4.size
              have hDn := hD.below hb4 (by omega)
              have b14 := b13.below hb4 (by omega)
              have b24 := b23.below hb4 (by omega)
              have d0 : w2.cell? ⟨wq.heap.size, 0, none⟩ = some (.int .i64 (1)) := Blk.cell hDn 0
              have d1 : w2.cell? ⟨wq.heap.size, 1, none⟩ = some (.int .i64 ((p0 : Int) + 1)) := Blk.cell hDn 1
              have df0 : w2.frozen? ⟨wq.heap.size, 0, none⟩ = false := Blk.frozen hDn 0
              have df1 : w2.frozen? ⟨wq.heap.size, 1, none⟩ = false := Blk.frozen hDn 1
              have x0 : w2.cell? ⟨w.heap.size + 1, 0, none⟩ = some (.int .i64 x1) := b24.cell 0
              have x1' : w2.cell? ⟨w.heap.size + 1, 1, none⟩ = some (.int .i64 x2) := b24.cell 1
              have hne1 : ¬ wq.heap.size = w.heap.size + 1 := by omega
              have hne2 : ¬ w.heap.size + 1 = wq.heap.size := by omega
              go_wp2_with fail
              have b25 := (b24.far (p := ⟨wq.heap.size, 0, none⟩) (by simp; omega) (.int .i64 (-1))).far (p := ⟨wq.heap.size, 1, none⟩) (by simp; omega) (.int .i64 ((p0 : Int) + 1))
              have b15 := (b14.far (p := ⟨wq.heap.size, 0, none⟩) (by simp; omega) (.int .i64 (-1))).far (p := ⟨wq.heap.size, 1, none⟩) (by simp; omega) (.int .i64 ((p0 : Int) + 1))
              have hb5 := ((hb3.trans (hb4.mono (by omega))).setCell (p := ⟨wq.heap.size, 0, none⟩) (by simp; omega) (.int .i64 (-1))).setCell (p := ⟨wq.heap.size, 1, none⟩) (by simp; omega) (.int .i64 ((p0 : Int) + 1))
              have hz5 : ((w2.setCell ⟨wq.heap.size, 0, none⟩ (.int .i64 (-1))).setCell ⟨wq.heap.size, 1, none⟩ (.int .i64 ((p0 : Int) + 1))).heap.size = w2.heap.size := by simp
              generalize (w2.setCell ⟨wq.heap.size, 0, none⟩ (.int .i64 (-1))).setCell ⟨wq.heap.size, 1, none⟩ (.int .i64 ((p0 : Int) + 1)) = V5 at *
              ((with_reducible refine (HA'.out _).mono ?_); rintro e w6 ⟨rfl, hb6⟩)
              have hz6 := hb6.size
              have b16 := b15.below hb6 (by omega)
              have b26 := b25.below hb6 (by omega)
              have y0 : w6.cell? ⟨w.heap.size + 1, 0, none⟩ = some (.int .i64 (x1)) := Blk.cell b26 0
              have y1 : w6.cell? ⟨w.heap.size + 1, 1, none⟩ = some (.int .i64 (x2)) := Blk.cell b26 1
              have yf0 : w6.frozen? ⟨w.heap.size + 1, 0, none⟩ = false := Blk.frozen b26 0
              have yf1 : w6.frozen? ⟨w.heap.size + 1, 1, none⟩ = false := Blk.frozen b26 1
              have HXX := HX; clear HR HX HA'
              go_wp2
              go_roundw
              case rel => exact ⟨k + 1, pw l k, b, a, by go_num, by omega, by rw [← HPI.out], rfl, HAB.out, ((hb5.trans (hb6.mono (by omega))).setCell (by simp; try omega) _).setCell (by simp; try omega) _, (b16.far (by simp) _).far (by simp) _, ((b26.set 0 (.int .i64 a)).set 1 (.int .i64 b))⟩
              case measure => simp [intOf]; omega
      · have h0I : ¬ (0 : Int) < (k : Int) := by omega
        have HPW : Hid ((p0 : Int) = (pw l k : Nat)) := by
          have hk0 : k = 0 := by omega
          show _ = _
          rw [hp0, hk0]; rfl
        clear hp0
        go_wp2
        go_quiet (fail)
        have hbq : Below w.heap.size w (wr.drewN nq) := bdrew hb _
        have b1q : Blk (wr.drewN nq) w.heap.size 44 #[.int .i64 0, .int .i64 0] := b1
        have b2q : Blk (wr.drewN nq) (w.heap.size + 1) 44 #[.int .i64 x1, .int .i64 x2] := b2
        clear c0 c1 b1 b2 hb hz2
        generalize wr.drewN nq = wq at *
        have hz2 := b2q.lt
        have cq0 : wq.cell? ⟨w.heap.size + 1, 0, none⟩ = some (.int .i64 x1) := b2q.cell 0
        have cq1 : wq.cell? ⟨w.heap.size + 1, 1, none⟩ = some (.int .i64 x2) := b2q.cell 1
        have hnq1 : ¬ wq.heap.size = w.heap.size + 1 := by omega
        have hnq2 : ¬ w.heap.size + 1 = wq.heap.size := by omega
        have hkI : (0 : Int) ≤ (k : Int) := by omega
        have hkI2 : (k : Int) < (s.size : Int) := by omega
        have HPI : Hid (((p0 : Int) : Int) = (pw l k : Nat)) := HPW.out
        by_cases hsg : sg l k = true
        · have ht : (((s[k]).toNat : Int) == 82) = false := by rw [HR.out, hsg]; rfl
          have HA' : Hid (∀ W, _) := fun W => add_step l k (by omega) 1 (by rw [hsg]; rfl) x1 x2 HX.out a b HAB.out ((p0 : Int)) HPI.out W
          clear hsg
          go_wp2_with fail
          have hb3 : Below w.heap.size w (wq.alloc (.cells #[.int .i64 1, .int .i64 ((p0 : Int))] 44)) := hbq.alloc (by omega) _
          have b13 := b1q.alloc (.cells #[.int .i64 1, .int .i64 ((p0 : Int))] 44)
          have b23 := b2q.alloc (.cells #[.int .i64 1, .int .i64 ((p0 : Int))] 44)
          have hz3 : (wq.alloc (.cells #[.int .i64 1, .int .i64 ((p0 : Int))] 44)).heap.size = wq.heap.size + 1 := by simp
          generalize wq.alloc (.cells #[.int .i64 1, .int .i64 ((p0 : Int))] 44) = V at *
          ((with_reducible refine (HA'.out _).mono ?_); rintro e w6 ⟨rfl, hb6⟩)
          have hz6 := hb6.size
          have b16 := b13.below hb6 (by omega)
          have b26 := b23.below hb6 (by omega)
          have y0 : w6.cell? ⟨w.heap.size + 1, 0, none⟩ = some (.int .i64 (x1)) := Blk.cell b26 0
          have y1 : w6.cell? ⟨w.heap.size + 1, 1, none⟩ = some (.int .i64 (x2)) := Blk.cell b26 1
          have yf0 : w6.frozen? ⟨w.heap.size + 1, 0, none⟩ = false := Blk.frozen b26 0
          have yf1 : w6.frozen? ⟨w.heap.size + 1, 1, none⟩ = false := Blk.frozen b26 1
          have HXX := HX; clear HR HX HA'
          go_wp2
          go_roundw
          case rel => exact ⟨k + 1, pw l k, b, a, by go_num, by omega, by rw [← HPI.out], rfl, HAB.out, ((hb3.trans (hb6.mono (by omega))).setCell (by simp; try omega) _).setCell (by simp; try omega) _, (b16.far (by simp) _).far (by simp) _, ((b26.set 0 (.int .i64 a)).set 1 (.int .i64 b))⟩
          case measure => simp [intOf]; omega
        · have hsf : sg l k = false := by simpa using hsg
          have ht : (((s[k]).toNat : Int) == 82) = true := by rw [HR.out, hsf]; rfl
          have HA' : Hid (∀ W, _) := fun W => add_step l k (by omega) (-1) (by rw [hsf]; rfl) x1 x2 HX.out a b HAB.out ((p0 : Int)) HPI.out W
          clear hsg hsf
          go_wp2_with fail
          have hD := Blk.new wq 44 #[.int .i64 1, .int .i64 ((p0 : Int))]
          have hb3 : Below w.heap.size w (wq.alloc (.cells #[.int .i64 1, .int .i64 ((p0 : Int))] 44)) := hbq.alloc (by omega) _
          have b13 := b1q.alloc (.cells #[.int .i64 1, .int .i64 ((p0 : Int))] 44)
          have b23 := b2q.alloc (.cells #[.int .i64 1, .int .i64 ((p0 : Int))] 44)
          have hz3 : (wq.alloc (.cells #[.int .i64 1, .int .i64 ((p0 : Int))] 44)).heap.size = wq.heap.size + 1 := by simp
          generalize wq.alloc (.cells #[.int .i64 1, .int .i64 ((p0 : Int))] 44) = V at *
          ((with_reducible refine (l2Neg_any _ _ _ (by omega) (by omega)).mono ?_); rintro e w2 ⟨rfl, hb4⟩)
          have hz4 := hb4.size
          have hDn := hD.below hb4 (by omega)
          have b14 := b13.below hb4 (by omega)
          have b24 := b23.below hb4 (by omega)
          have d0 : w2.cell? ⟨wq.heap.size, 0, none⟩ = some (.int .i64 (1)) := Blk.cell hDn 0
          have d1 : w2.cell? ⟨wq.heap.size, 1, none⟩ = some (.int .i64 ((p0 : Int))) := Blk.cell hDn 1
          have df0 : w2.frozen? ⟨wq.heap.size, 0, none⟩ = false := Blk.frozen hDn 0
          have df1 : w2.frozen? ⟨wq.heap.size, 1, none⟩ = false := Blk.frozen hDn 1
          have x0 : w2.cell? ⟨w.heap.size + 1, 0, none⟩ = some (.int .i64 x1) := b24.cell 0
          have x1' : w2.cell? ⟨w.heap.size + 1, 1, none⟩ = some (.int .i64 x2) := b24.cell 1
          have hne1 : ¬ wq.heap.size = w.heap.size + 1 := by omega
          have hne2 : ¬ w.heap.size + 1 = wq.heap.size := by omega
          go_wp2_with fail
          have b25 := (b24.far (p := ⟨wq.heap.size, 0, none⟩) (by simp; omega) (.int .i64 (-1))).far (p := ⟨wq.heap.size, 1, none⟩) (by simp; omega) (.int .i64 ((p0 : Int)))
          have b15 := (b14.far (p := ⟨wq.heap.size, 0, none⟩) (by simp; omega) (.int .i64 (-1))).far (p := ⟨wq.heap.size, 1, none⟩) (by simp; omega) (.int .i64 ((p0 : Int)))
          have hb5 := ((hb3.trans (hb4.mono (by omega))).setCell (p := ⟨wq.heap.size, 0, none⟩) (by simp; omega) (.int .i64 (-1))).setCell (p := ⟨wq.heap.size, 1, none⟩) (by simp; omega) (.int .i64 ((p0 : Int)))
          have hz5 : ((w2.setCell ⟨wq.heap.size, 0, none⟩ (.int .i64 (-1))).setCell ⟨wq.heap.size, 1, none⟩ (.int .i64 ((p0 : Int)))).heap.size = w2.heap.size := by simp
          generalize (w2.setCell ⟨wq.heap.size, 0, none⟩ (.int .i64 (-1))).setCell ⟨wq.heap.size, 1, none⟩ (.int .i64 ((p0 : Int))) = V5 at *
          ((with_reducible refine (HA'.out _).mono ?_); rintro e w6 ⟨rfl, hb6⟩)
          have hz6 := hb6.size
          have b16 := b15.below hb6 (by omega)
          have b26 := b25.below hb6 (by omega)
          have y0 : w6.cell? ⟨w.heap.size + 1, 0, none⟩ = some (.int .i64 (x1)) := Blk.cell b26 0
          have y1 : w6.cell? ⟨w.heap.size + 1, 1, none⟩ = some (.int .i64 (x2)) := Blk.cell b26 1
          have yf0 : w6.frozen? ⟨w.heap.size + 1, 0, none⟩ = false := Blk.frozen b26 0
          have yf1 : w6.frozen? ⟨w.heap.size + 1, 1, none⟩ = false := Blk.frozen b26 1
          have HXX := HX; clear HR HX HA'
          go_wp2
          go_roundw
          case rel => exact ⟨k + 1, pw l k, b, a, by go_num, by omega, by rw [← HPI.out], rfl, HAB.out, ((hb5.trans (hb6.mono (by omega))).setCell (by simp; try omega) _).setCell (by simp; try omega) _, (b16.far (by simp) _).far (by simp) _, ((b26.set 0 (.int .i64 a)).set 1 (.int .i64 b))⟩
          case measure => simp [intOf]; omega
    · obtain rfl : k = l.length := by omega
      have hks : ¬ l.length < s.size := by rw [HSZ.out]; omega
      have HSZ2 : Hid (s.size = l.length) := HSZ
      have hle : (s.size : Int) ≤ (l.length : Int) := by omega
      have r0 : wr.cell? ⟨w.heap.size, 0, none⟩ = some (.int .i64 (0)) := Blk.cell b1 0
      have r1 : wr.cell? ⟨w.heap.size, 1, none⟩ = some (.int .i64 (0)) := Blk.cell b1 1
      have rf0 : wr.frozen? ⟨w.heap.size, 0, none⟩ = false := Blk.frozen b1 0
      have rf1 : wr.frozen? ⟨w.heap.size, 1, none⟩ = false := Blk.frozen b1 1
      clear hpb hpk hp0 b1 b2
      go_wp2
      exact bodyPost_ret (v := .agg #[.int .i64 x1, .int .i64 x2]) (by simp [results, Tryd.results83, go_sem, r0, r1]) rfl ⟨by rw [HX.out]; rfl, (hb.setCell (by simp) _).setCell (by simp) _⟩
end Go.Proofs.YtadljglcbieifaaDoor
