/- FnRows1 returns true: the walk. Conditions: none. -/
import Derived.Test.YtmdnbmdkommmkaaCut
import Derived.BigQuiet
namespace Go.Proofs.Ytmdnbmdkommmkaa
open Go.RowKit
set_option linter.unusedVariables false

theorem IsRow.rdY {w : World} {a : Option Addr} {len cap : Nat} {zs : List Int} (h : IsRow .u8 w a len cap zs) : RdY w a cap (zs.take len) ∧ (zs.take len).length = len := by
  rcases h with ⟨rfl, rfl, rfl, rfl⟩ | ⟨x, rfl, hl, hm, hz, hc, hw⟩
  · exact ⟨⟨Rd.nil, fun b hb => by simp at hb⟩, rfl⟩
  · have hlen : (zs.take len).length = len := by rw [List.length_take]; omega
    refine ⟨⟨⟨by rw [byts_len]; omega, hm, fun h => by simp at h, fun j hj => ?_⟩, fun b hb => ?_⟩, hlen⟩
    · have h0 := hc 0 (by rw [byts_len] at hj; omega)
      obtain ⟨b, o, spot⟩ := x
      have hsp : spot = none := by simpa [Addr.add] using World.cell?_spot h0
      subst hsp
      have hlt : b < w.heap.size := by
        rcases Nat.lt_or_ge b w.heap.size with h' | h'
        · exact h'
        · simp [Addr.add, World.cell?, Array.getElem?_eq_none h'] at h0
      refine ⟨b, o, rfl, hlt, fun i u hi => ?_⟩
      have hil : i < len := by
        rcases Nat.lt_or_ge i (byts (zs.take len)).length with h' | h'
        · rw [byts_len] at h'; omega
        · rw [List.getElem?_eq_none h'] at hi; cases hi
      have h1 := hc i (by omega)
      have h2 : (⟨b, o, none⟩ : Addr).add i = ⟨b, o + i, none⟩ := by unfold Addr.add; by_cases e : i = 0 <;> simp [e]
      rw [h2] at h1
      rw [h1, ← hi]
      have : i < zs.length := by omega
      simp [byts, List.getElem?_take_of_lt hil, this]
    · have hb' := hw b (List.mem_of_mem_take hb)
      simp [Lit.wf] at hb'
      have e1 : IntKind.u8.min = 0 := by decide
      have e2 : IntKind.u8.max = 255 := by decide
      omega

/-- What the least period of a row says. -/
theorem lp_facts (vs : List Int) : ∀ (f k : Nat) (p l : Nat), lp vs k f = some (p, l) → k ≤ l ∧ l < k + f ∧ p = setl vs l (vs.length - l) ∧ p + 2 * l ≤ vs.length ∧ ∀ m, k ≤ m → m < l → ¬ setl vs m (vs.length - m) + 2 * m ≤ vs.length := by
  intro f
  induction f with
  | zero => intro k p l h; cases h
  | succ f ih =>
    intro k p l h
    rw [lp] at h
    by_cases hc : setl vs k (vs.length - k) + 2 * k ≤ vs.length
    · rw [if_pos hc] at h
      injection h with h
      injection h with h1 h2
      subst h1 h2
      exact ⟨Nat.le_refl _, by omega, rfl, hc, fun m h1 h2 => by omega⟩
    · rw [if_neg hc] at h
      obtain ⟨a1, a2, a3, a4, a5⟩ := ih (k + 1) p l h
      refine ⟨by omega, by omega, a3, a4, fun m h1 h2 => ?_⟩
      by_cases hm : m = k
      · subst hm; exact hc
      · exact a5 m (by omega) h2
theorem least_facts (vs : List Int) (p l : Nat) (h : leastPer vs = some (p, l)) :
    vs.length ≤ 301 ∧ 1 ≤ l ∧ p + 2 * l ≤ vs.length ∧ goodPerB p l = true ∧ repB vs p l = true ∧ (0 < p → repB vs (p - 1) l = false) ∧ ∀ m, 1 ≤ m → m < l → repB vs (vs.length - 2 * m) m = false := by
  unfold leastPer at h
  by_cases hn : 2 ≤ vs.length ∧ vs.length ≤ 301
  · rw [if_pos hn] at h
    obtain ⟨a1, a2, a3, a4, a5⟩ := lp_facts vs 300 1 p l h
    refine ⟨hn.2, a1, a4, by simp [goodPerB]; omega, by simp [repB]; omega, fun hp => by simp [repB]; omega, fun m h1 h2 => ?_⟩
    have := a5 m h1 h2
    simp [repB]
    omega
  · rw [if_neg hn] at h; cases h

set_option maxRecDepth 100000 in
set_option maxHeartbeats 3200000 in
theorem lawRows1 (a : Option Addr) (len cap : Nat) (zs : List Int) (w : World) (h : IsRow .u8 w a len cap zs) :
    Calls Try.prog 3 #[.slice a len cap] w fun e w' => e = .returned (.bool true) ∧ Below w.heap.size w w' := by
  obtain ⟨hr, hl⟩ := h.rdY
  clear h
  generalize zs.take len = bs at hr hl
  subst hl
  have h1 := hr.1.len
  have h2 := hr.1.max
  rw [byts_len] at h1
  by_cases hbig : 65536 < bs.length
  · have hB : ∀ W, Calls Try.prog 9 #[.slice a bs.length cap] W fun e w' => e = .returned (.bool true) ∧ W = w' := fun W => by
      go_enter Try.func9, Try.ntmps9
      go_wp2
      go_ret
      exact ⟨ret_bool (by simp; omega), rfl⟩
    have HB := Lib.hid hB; clear hB
    go_enter Try.func3, Try.ntmps3
    go_wp2_with fail
    ((with_reducible refine (HB.out _).mono ?_); rintro e w1 ⟨rfl, rfl⟩)
    go_wp2
    go_ret
    exact ⟨rfl, Below.refl _ _⟩
  · have hB : ∀ W, Calls Try.prog 9 #[.slice a bs.length cap] W fun e w' => e = .returned (.bool false) ∧ W = w' := fun W => by
      go_enter Try.func9, Try.ntmps9
      go_wp2
      go_ret
      exact ⟨ret_bool (by simp; omega), rfl⟩
    have HB := Lib.hid hB; clear hB
    have hsm : bs.length ≤ 65536 := by omega
    clear hbig
    go_enter Try.func3, Try.ntmps3
    go_wp2_with fail
    ((with_reducible refine (HB.out _).mono ?_); rintro e w1 ⟨rfl, rfl⟩)
    go_wp2_with fail
    ((with_reducible refine (drawLeast_any _ _ _ _ hr).mono ?_); rintro e w1 ⟨A1, c1, xs, rfl, ho1, hb1, hxl⟩)
    have hz1 := hb1.size
    have hlen1 : xs.length ≤ c1 := (ho1.rd rfl).len
    obtain ⟨q, hq⟩ : ∃ q, leastPer xs = q := ⟨_, rfl⟩
    cases q with
    | none =>
      have HI : Hid (∀ W B, B ≤ W.heap.size → RdI W B A1 c1 xs → Calls Try.prog 11 #[.slice A1 xs.length c1] W fun e w' => e = .returned (.tuple #[.agg #[.int .i64 0, .int .i64 0], .bool false]) ∧ Below W.heap.size W w') := fun W B hB hh => by
        have := leastI_any A1 c1 xs W B hB hh; rwa [hq] at this
      have HS : Hid (∀ W B, B ≤ W.heap.size → RdI W B A1 c1 xs → Calls Try.prog 12 #[.slice A1 xs.length c1] W fun e w' => e = .returned (.tuple #[.agg #[.int .i64 0, .int .i64 0], .bool false]) ∧ Below W.heap.size W w') := fun W B hB hh => by
        have := leastS_any A1 c1 xs W B hB hh; rwa [hq] at this
      clear hq
      go_wp2_with fail
      ((with_reducible refine (HI.out _ _ (Nat.le_refl _) (ho1.rd rfl)).mono ?_); rintro e w2 ⟨rfl, hb2⟩)
      have hz2 := hb2.size
      have g2 := gtr hb1 hb2
      have ho2 := ho1.below hb2
      have hP3 := Blk.new w2 27 #[.int .i64 (0), .int .i64 (0)]
      have ho3 := ho2.below (bel1 w2 (.cells #[.int .i64 (0), .int .i64 (0)] 27))
      have g3 := gtr g2 (bel1 w2 (.cells #[.int .i64 (0), .int .i64 (0)] 27))
      have hz3 : (w2.alloc (.cells #[.int .i64 (0), .int .i64 (0)] 27)).heap.size = w2.heap.size + 1 := by simp
      go_wp2_with fail
      generalize w2.alloc (.cells #[.int .i64 (0), .int .i64 (0)] 27) = W3 at *
      ((with_reducible refine (HS.out _ _ (Nat.le_refl _) (ho3.rd rfl)).mono ?_); rintro e w4 ⟨rfl, hb4⟩)
      have hz4 := hb4.size
      have g4 := gtr g3 hb4
      have ho4 := ho3.below hb4
      have hP4 := hP3.below hb4 (by omega)
      have hP5 := hP4.alloc (.cells #[.int .i64 (0), .int .i64 (0)] 27)
      have ho5 := ho4.below (bel1 w4 (.cells #[.int .i64 (0), .int .i64 (0)] 27))
      have g5 := gtr g4 (bel1 w4 (.cells #[.int .i64 (0), .int .i64 (0)] 27))
      have hz5 : (w4.alloc (.cells #[.int .i64 (0), .int .i64 (0)] 27)).heap.size = w4.heap.size + 1 := by simp
      have p0 : (w4.alloc (.cells #[.int .i64 (0), .int .i64 (0)] 27)).cell? ⟨w2.heap.size, 0, none⟩ = some (.int .i64 (0)) := Blk.cell hP5 0
      have p1 : (w4.alloc (.cells #[.int .i64 (0), .int .i64 (0)] 27)).cell? ⟨w2.heap.size, 1, none⟩ = some (.int .i64 (0)) := Blk.cell hP5 1
      have hnn1 : ¬ w4.heap.size = w2.heap.size := by omega
      have hnn2 : ¬ w2.heap.size = w4.heap.size := by omega
      clear hP3 ho2 ho3 hP4 ho4
      go_wp2
      go_ret
      exact ⟨rfl, g5⟩
    | some pl =>
      obtain ⟨p, l⟩ := pl
      have HI : Hid (∀ W B, B ≤ W.heap.size → RdI W B A1 c1 xs → Calls Try.prog 11 #[.slice A1 xs.length c1] W fun e w' => e = .returned (.tuple #[.agg #[.int .i64 p, .int .i64 l], .bool true]) ∧ Below W.heap.size W w') := fun W B hB hh => by
        have := leastI_any A1 c1 xs W B hB hh; rwa [hq] at this
      have HS : Hid (∀ W B, B ≤ W.heap.size → RdI W B A1 c1 xs → Calls Try.prog 12 #[.slice A1 xs.length c1] W fun e w' => e = .returned (.tuple #[.agg #[.int .i64 p, .int .i64 l], .bool true]) ∧ Below W.heap.size W w') := fun W B hB hh => by
        have := leastS_any A1 c1 xs W B hB hh; rwa [hq] at this
      obtain ⟨f1, f2, f3, f4, f5, f6, f7⟩ := least_facts xs p l hq
      clear hq
      have HG : Hid (∀ W, Calls Try.prog 13 #[.agg #[.int .i64 p, .int .i64 l]] W fun e w' => e = .returned (.bool true) ∧ Below W.heap.size W w') := fun W => by
        have := goodPerI_any p l W; rwa [f4] at this
      have HR1 : Hid (∀ W B, B ≤ W.heap.size → RdI W B A1 c1 xs → Calls Try.prog 14 #[.slice A1 xs.length c1, .agg #[.int .i64 p, .int .i64 l]] W fun e w' => e = .returned (.bool true) ∧ Below W.heap.size W w') := fun W B hB hh => by
        have := repeatsI_any A1 c1 xs p l W B hB hh
        rw [Int.toNat_natCast, Int.toNat_natCast, f4, f5] at this
        exact this
      have HR2 : Hid (0 < p → ∀ W B, B ≤ W.heap.size → RdI W B A1 c1 xs → Calls Try.prog 14 #[.slice A1 xs.length c1, .agg #[.int .i64 ((p : Int) - 1), .int .i64 l]] W fun e w' => e = .returned (.bool false) ∧ Below W.heap.size W w') := fun hp W B hB hh => by
        have := repeatsI_any A1 c1 xs ((p : Int) - 1) l W B hB hh
        have e : ((p : Int) - 1).toNat = p - 1 := by omega
        rw [Int.toNat_natCast, e, f6 hp, Bool.and_false] at this
        exact this
      have HR3 : Hid (∀ m : Nat, 1 ≤ m → m < l → ∀ W B, B ≤ W.heap.size → RdI W B A1 c1 xs → Calls Try.prog 14 #[.slice A1 xs.length c1, .agg #[.int .i64 ((xs.length : Int) - 2 * (m : Int)), .int .i64 m]] W fun e w' => e = .returned (.bool false) ∧ Below W.heap.size W w') := fun m hm1 hm2 W B hB hh => by
        have := repeatsI_any A1 c1 xs ((xs.length : Int) - 2 * (m : Int)) m W B hB hh
        have e : ((xs.length : Int) - 2 * (m : Int)).toNat = xs.length - 2 * m := by omega
        rw [Int.toNat_natCast, e, f7 m hm1 hm2, Bool.and_false] at this
        exact this
      clear f4 f5 f6 f7
      go_wp2_with fail
      ((with_reducible refine (HI.out _ _ (Nat.le_refl _) (ho1.rd rfl)).mono ?_); rintro e w2 ⟨rfl, hb2⟩)
      have hz2 := hb2.size
      have g2 := gtr hb1 hb2
      have ho2 := ho1.below hb2
      have hP3 := Blk.new w2 27 #[.int .i64 ((p:Int)), .int .i64 ((l:Int))]
      have ho3 := ho2.below (bel1 w2 (.cells #[.int .i64 ((p:Int)), .int .i64 ((l:Int))] 27))
      have g3 := gtr g2 (bel1 w2 (.cells #[.int .i64 ((p:Int)), .int .i64 ((l:Int))] 27))
      have hz3 : (w2.alloc (.cells #[.int .i64 ((p:Int)), .int .i64 ((l:Int))] 27)).heap.size = w2.heap.size + 1 := by simp
      go_wp2_with fail
      generalize w2.alloc (.cells #[.int .i64 ((p:Int)), .int .i64 ((l:Int))] 27) = W3 at *
      ((with_reducible refine (HS.out _ _ (Nat.le_refl _) (ho3.rd rfl)).mono ?_); rintro e w4 ⟨rfl, hb4⟩)
      have hz4 := hb4.size
      have g4 := gtr g3 hb4
      have ho4 := ho3.below hb4
      have hP4 := hP3.below hb4 (by omega)
      have hP5 := hP4.alloc (.cells #[.int .i64 ((p:Int)), .int .i64 ((l:Int))] 27)
      have ho5 := ho4.below (bel1 w4 (.cells #[.int .i64 ((p:Int)), .int .i64 ((l:Int))] 27))
      have g5 := gtr g4 (bel1 w4 (.cells #[.int .i64 ((p:Int)), .int .i64 ((l:Int))] 27))
      have hz5 : (w4.alloc (.cells #[.int .i64 ((p:Int)), .int .i64 ((l:Int))] 27)).heap.size = w4.heap.size + 1 := by simp
      have p0 : (w4.alloc (.cells #[.int .i64 ((p:Int)), .int .i64 ((l:Int))] 27)).cell? ⟨w2.heap.size, 0, none⟩ = some (.int .i64 ((p:Int))) := Blk.cell hP5 0
      have p1 : (w4.alloc (.cells #[.int .i64 ((p:Int)), .int .i64 ((l:Int))] 27)).cell? ⟨w2.heap.size, 1, none⟩ = some (.int .i64 ((l:Int))) := Blk.cell hP5 1
      have hnn1 : ¬ w4.heap.size = w2.heap.size := by omega
      have hnn2 : ¬ w2.heap.size = w4.heap.size := by omega
      clear hP3 ho2 ho3 hP4 ho4
      go_wp2_with fail
      generalize w4.alloc (.cells #[.int .i64 (p:Int), .int .i64 (l:Int)] 27) = W5 at *
      obtain ⟨P4, hP4e⟩ : ∃ P4, P4 = w2.heap.size := ⟨_, rfl⟩
      rw [← hP4e] at hP5 p0 p1 hnn1 hnn2 ⊢
      have hlt4 := hP5.lt
      clear hP4e hnn1 hnn2 p0 p1
      ((with_reducible refine (HG.out _).mono ?_); rintro e w6 ⟨rfl, hb6⟩)
      have ho6 := ho5.below hb6
      have hP6 := hP5.below hb6 hlt4
      have g6 := gtr g5 hb6
      clear ho5 hP5 g5 hb6
      have p0 : w6.cell? ⟨P4, 0, none⟩ = some (.int .i64 (p : Int)) := Blk.cell hP6 0
      have p1 : w6.cell? ⟨P4, 1, none⟩ = some (.int .i64 (l : Int)) := Blk.cell hP6 1
      go_wp2_with fail
      ((with_reducible refine (HR1.out _ _ (Nat.le_refl _) (ho6.rd rfl)).mono ?_); rintro e w7 ⟨rfl, hb7⟩)
      have ho7 := ho6.below hb7
      have hP7 := hP6.below hb7 hP6.lt
      have g7 := gtr g6 hb7
      clear ho6 hP6 g6 hb7 p0 p1
      have p0 : w7.cell? ⟨P4, 0, none⟩ = some (.int .i64 (p : Int)) := Blk.cell hP7 0
      have p1 : w7.cell? ⟨P4, 1, none⟩ = some (.int .i64 (l : Int)) := Blk.cell hP7 1
      have hf3 : (p : Int) + 2 * (l : Int) ≤ (xs.length : Int) := by omega
      by_cases hp : 0 < p
      · have hpI : (0 : Int) < (p : Int) := by omega
        have HR2' := Lib.hid (HR2.out hp)
        go_wp2_with fail
        ((with_reducible refine (HR2'.out _ _ (Nat.le_refl _) (ho7.rd rfl)).mono ?_); rintro e w8 ⟨rfl, hb8⟩)
        have ho8 := ho7.below hb8
        have hP8 := hP7.below hb8 hP7.lt
        have g8 := gtr g7 hb8
        clear ho7 hP7 g7 hb8 p0 p1
        have p0 : w8.cell? ⟨P4, 0, none⟩ = some (.int .i64 (p : Int)) := Blk.cell hP8 0
        have p1 : w8.cell? ⟨P4, 1, none⟩ = some (.int .i64 (l : Int)) := Blk.cell hP8 1
        have hf2 : (1 : Int) ≤ (l : Int) := by omega
        have HO0 : Hid (OwnI w8 w.heap.size (.slice A1 xs.length c1) xs) := ho8
        have HP0 : Hid (Blk w8 P4 27 #[.int .i64 (p:Int), .int .i64 (l:Int)]) := hP8
        have HG0 : Hid (Below w.heap.size w w8) := g8
        clear ho8 hP8 g8 p0 p1
        go_wp2
        go_loopw [8] (fun i wr => ∃ k : Nat, i = .int .i64 k ∧ 1 ≤ k ∧ k ≤ l ∧ OwnI wr w.heap.size (.slice A1 xs.length c1) xs ∧ Blk wr P4 27 #[.int .i64 (p:Int), .int .i64 (l:Int)] ∧ Below w.heap.size w wr) (fun i _ => l - (intOf i).toNat)
        case atStart => exact ⟨1, rfl, by omega, by omega, HO0.out, HP0.out, HG0.out⟩
        case round =>
          clear HO0 HP0 HG0
          obtain ⟨k, rfl, hk1, hk2, hor, hPr, hgr⟩ := hrel
          have hzr := hgr.size
          have p0 : wr.cell? ⟨P4, 0, none⟩ = some (.int .i64 (p : Int)) := Blk.cell hPr 0
          have p1 : wr.cell? ⟨P4, 1, none⟩ = some (.int .i64 (l : Int)) := Blk.cell hPr 1
          by_cases hlt : k < l
          · have hkI : (k : Int) < (l : Int) := by omega
            have HR := Lib.hid (HR3.out k hk1 hlt)
            have hkb : k ≤ 301 := by omega
            go_wp2_with fail
            ((with_reducible refine (HR.out _ _ (Nat.le_refl _) (hor.rd rfl)).mono ?_); rintro e w8 ⟨rfl, hb8⟩)
            have ho8 := hor.below hb8
            have hP8 := hPr.below hb8 hPr.lt
            have g8 := gtr hgr hb8
            go_wp2
            go_roundw
            case rel => exact ⟨k + 1, by go_num, by omega, by omega, ho8, hP8, g8⟩
            case measure => simp [intOf]; omega
          · have hkI : ¬ (k : Int) < (l : Int) := by omega
            have hrr : RdY wr a cap bs := hr.below hgr
            clear p0
            go_wp2_with fail
            ((with_reducible refine (rCut_any _ _ _ _ hrr hsm).mono ?_); rintro e w9 ⟨A9, c9, bs9, rfl, hr9, hb9, hl9⟩)
            have g9 := gtr hgr hb9
            go_wp2_with fail
            ((with_reducible refine (drawRep_any _ _ _ _ hr9).mono ?_); rintro e w10 ⟨A10, c10, ys, p', l', rfl, ho10, hb10, hl10⟩)
            have g10 := gtr g9 hb10
            have hz10 := hb10.size
            have hP10 := Blk.new w10 27 #[.int .i64 p', .int .i64 l']
            have ho11 := ho10.below (bel1 w10 (.cells #[.int .i64 p', .int .i64 l'] 27))
            have g11 := gtr g10 (bel1 w10 (.cells #[.int .i64 p', .int .i64 l'] 27))
            go_wp2
            generalize w10.alloc (.cells #[.int .i64 p', .int .i64 l'] 27) = W11 at *
            obtain ⟨P10, hP10e⟩ : ∃ P10, P10 = w10.heap.size := ⟨_, rfl⟩
            rw [← hP10e] at hP10 ⊢
            clear hP10e
            have hlt10 := hP10.lt
            have q0 : W11.cell? ⟨P10, 0, none⟩ = some (.int .i64 p') := hP10.cell 0
            have q1 : W11.cell? ⟨P10, 1, none⟩ = some (.int .i64 l') := hP10.cell 1
            have hx0 := fun x => (grow_cell (w := W11) P10 0 hlt10 x).trans q0
            have hx1 := fun x => (grow_cell (w := W11) P10 1 hlt10 x).trans q1
            have hrd : RdI W11 W11.heap.size A10 c10 ys := ho11.rd rfl
            have HRI : Hid (∀ W, Below W11.heap.size W11 W → Calls Try.prog 14 #[.slice A10 ys.length c10, .agg #[.int .i64 p', .int .i64 l']] W fun e w' => e = .returned (.bool (goodPerB p' l' && repB ys p'.toNat l'.toNat)) ∧ Below W.heap.size W w') := fun W hW => repeatsI_any _ _ _ _ _ _ _ hW.size (hrd.below hW (Nat.le_refl _))
            have HRS : Hid (∀ W, Below W11.heap.size W11 W → Calls Try.prog 17 #[.slice A10 ys.length c10, .agg #[.int .i64 p', .int .i64 l']] W fun e w' => e = .returned (.bool (goodPerB p' l' && repB ys p'.toNat l'.toNat)) ∧ Below W.heap.size W w') := fun W hW => repeatsS_any _ _ _ _ _ _ _ hW.size (hrd.below hW (Nat.le_refl _))
            generalize (goodPerB p' l' && repB ys p'.toNat l'.toNat) = res at *
            clear q0 q1
            refine wp_region_inv (Below W11.heap.size W11) (grow0 _) (by kernel_rfl) (by kernel_rfl) ?_
            repeat (go_big_quiet_step (first
              | (go_at_call 14; exact grow_step (HRI.out _ (inst_inv _)))
              | (go_at_call 17; exact grow_step (HRS.out _ (inst_inv _)))))
            refine wpQuiet_nil ?_
            intro w12 hw'
            have hb12 := grow_of hw'
            clear hw'
            go_wp2
            go_ret
            exact ⟨ret_bool (by simp), gtr g11 hb12⟩
      · have HNP : Hid (¬ 0 < p) := hp
        clear hp
        go_wp2_with fail
        have hf2 : (1 : Int) ≤ (l : Int) := by omega
        have HO0 : Hid (OwnI w7 w.heap.size (.slice A1 xs.length c1) xs) := ho7
        have HP0 : Hid (Blk w7 P4 27 #[.int .i64 (p:Int), .int .i64 (l:Int)]) := hP7
        have HG0 : Hid (Below w.heap.size w w7) := g7
        clear ho7 hP7 g7 p0 p1
        go_wp2
        go_loopw [8] (fun i wr => ∃ k : Nat, i = .int .i64 k ∧ 1 ≤ k ∧ k ≤ l ∧ OwnI wr w.heap.size (.slice A1 xs.length c1) xs ∧ Blk wr P4 27 #[.int .i64 (p:Int), .int .i64 (l:Int)] ∧ Below w.heap.size w wr) (fun i _ => l - (intOf i).toNat)
        case atStart => exact ⟨1, rfl, by omega, by omega, HO0.out, HP0.out, HG0.out⟩
        case round =>
          clear HO0 HP0 HG0
          obtain ⟨k, rfl, hk1, hk2, hor, hPr, hgr⟩ := hrel
          have hzr := hgr.size
          have p0 : wr.cell? ⟨P4, 0, none⟩ = some (.int .i64 (p : Int)) := Blk.cell hPr 0
          have p1 : wr.cell? ⟨P4, 1, none⟩ = some (.int .i64 (l : Int)) := Blk.cell hPr 1
          by_cases hlt : k < l
          · have hkI : (k : Int) < (l : Int) := by omega
            have HR := Lib.hid (HR3.out k hk1 hlt)
            have hkb : k ≤ 301 := by omega
            go_wp2_with fail
            ((with_reducible refine (HR.out _ _ (Nat.le_refl _) (hor.rd rfl)).mono ?_); rintro e w8 ⟨rfl, hb8⟩)
            have ho8 := hor.below hb8
            have hP8 := hPr.below hb8 hPr.lt
            have g8 := gtr hgr hb8
            go_wp2
            go_roundw
            case rel => exact ⟨k + 1, by go_num, by omega, by omega, ho8, hP8, g8⟩
            case measure => simp [intOf]; omega
          · have hkI : ¬ (k : Int) < (l : Int) := by omega
            have hrr : RdY wr a cap bs := hr.below hgr
            clear p0
            go_wp2_with fail
            ((with_reducible refine (rCut_any _ _ _ _ hrr hsm).mono ?_); rintro e w9 ⟨A9, c9, bs9, rfl, hr9, hb9, hl9⟩)
            have g9 := gtr hgr hb9
            go_wp2_with fail
            ((with_reducible refine (drawRep_any _ _ _ _ hr9).mono ?_); rintro e w10 ⟨A10, c10, ys, p', l', rfl, ho10, hb10, hl10⟩)
            have g10 := gtr g9 hb10
            have hz10 := hb10.size
            have hP10 := Blk.new w10 27 #[.int .i64 p', .int .i64 l']
            have ho11 := ho10.below (bel1 w10 (.cells #[.int .i64 p', .int .i64 l'] 27))
            have g11 := gtr g10 (bel1 w10 (.cells #[.int .i64 p', .int .i64 l'] 27))
            go_wp2
            generalize w10.alloc (.cells #[.int .i64 p', .int .i64 l'] 27) = W11 at *
            obtain ⟨P10, hP10e⟩ : ∃ P10, P10 = w10.heap.size := ⟨_, rfl⟩
            rw [← hP10e] at hP10 ⊢
            clear hP10e
            have hlt10 := hP10.lt
            have q0 : W11.cell? ⟨P10, 0, none⟩ = some (.int .i64 p') := hP10.cell 0
            have q1 : W11.cell? ⟨P10, 1, none⟩ = some (.int .i64 l') := hP10.cell 1
            have hx0 := fun x => (grow_cell (w := W11) P10 0 hlt10 x).trans q0
            have hx1 := fun x => (grow_cell (w := W11) P10 1 hlt10 x).trans q1
            have hrd : RdI W11 W11.heap.size A10 c10 ys := ho11.rd rfl
            have HRI : Hid (∀ W, Below W11.heap.size W11 W → Calls Try.prog 14 #[.slice A10 ys.length c10, .agg #[.int .i64 p', .int .i64 l']] W fun e w' => e = .returned (.bool (goodPerB p' l' && repB ys p'.toNat l'.toNat)) ∧ Below W.heap.size W w') := fun W hW => repeatsI_any _ _ _ _ _ _ _ hW.size (hrd.below hW (Nat.le_refl _))
            have HRS : Hid (∀ W, Below W11.heap.size W11 W → Calls Try.prog 17 #[.slice A10 ys.length c10, .agg #[.int .i64 p', .int .i64 l']] W fun e w' => e = .returned (.bool (goodPerB p' l' && repB ys p'.toNat l'.toNat)) ∧ Below W.heap.size W w') := fun W hW => repeatsS_any _ _ _ _ _ _ _ hW.size (hrd.below hW (Nat.le_refl _))
            generalize (goodPerB p' l' && repB ys p'.toNat l'.toNat) = res at *
            clear q0 q1
            refine wp_region_inv (Below W11.heap.size W11) (grow0 _) (by kernel_rfl) (by kernel_rfl) ?_
            repeat (go_big_quiet_step (first
              | (go_at_call 14; exact grow_step (HRI.out _ (inst_inv _)))
              | (go_at_call 17; exact grow_step (HRS.out _ (inst_inv _)))))
            refine wpQuiet_nil ?_
            intro w12 hw'
            have hb12 := grow_of hw'
            clear hw'
            go_wp2
            go_ret
            exact ⟨ret_bool (by simp), gtr g11 hb12⟩
end Go.Proofs.Ytmdnbmdkommmkaa
