/- l17Moves by its contract. Conditions: none. -/
import Derived.Test.YtbledcogbkeneaaMoves2
namespace Go.Proofs.Ytbledcogbkeneaa
open Go.RowKit
set_option linter.unusedVariables false

theorem Rd.of_lit {w : World} {g : Nat} {E : TypeId} {cs : List Value} (h : Blk w g E cs.toArray) {B : Nat} (hB : g < B) (hl : cs.length ≤ 1000000) : Rd w B (some ⟨g, 0, none⟩) cs.length cs := by
  refine ⟨Nat.le_refl _, by unfold maxLen; omega, fun h => by simp at h, fun j hj => ⟨g, 0, rfl, hB, fun i v hi => ?_⟩⟩
  rw [h.cell, Nat.zero_add]
  simpa using hi

/-- The slice v reads as a sorted list of the lists for which P holds. -/
def Mov (w : World) (lo : Nat) (v : Value) (b : Nat) (P : List Int → Prop) : Prop :=
  ∃ xss A c, v = .slice A xss.length c ∧ RdR w lo w.heap.size A c xss ∧ Sorted xss ∧ xss.length ≤ b ∧ ∀ xs, xs ∈ xss ↔ P xs
theorem Mov.congr {w : World} {lo : Nat} {v : Value} {b b' : Nat} {P Q : List Int → Prop} (h : Mov w lo v b P) (hb : b ≤ b') (hq : ∀ xs, P xs ↔ Q xs) : Mov w lo v b' Q := by
  obtain ⟨xss, A, c, h1, h2, h3, h4, h5⟩ := h
  exact ⟨xss, A, c, h1, h2, h3, by omega, fun xs => (h5 xs).trans (hq xs)⟩
theorem mvD_one (d : Int) (r : Nat) (xs : List Int) : mvD d r 1 xs ↔ (d % 2 = 1 ∧ r = 0 ∧ xs = []) ∨ (d / 2 % 2 = 1 ∧ 0 < r ∧ xs = [(r : Int)]) := by
  constructor
  · rintro (h1 | h1 | ⟨h1, a, h2, h3, h4, h5⟩)
    · exact .inl h1
    · exact .inr h1
    · omega
  · rintro (h1 | h1)
    · exact .inl h1
    · exact .inr (.inl h1)
theorem len_putL (l : List (List Int)) (x : List Int) : (putL l x).length ≤ l.length + 1 := by
  induction l with
  | nil => simp [putL]
  | cons y ys ih =>
    unfold putL
    split
    · simp only [List.length_cons]; omega
    · split
      · simp only [List.length_cons]; omega
      · simp only [List.length_cons]; omega

set_option maxHeartbeats 1600000 in
theorem moves_any (A : Option Addr) (c : Nat) (cs : List Int) (n : Nat) (w : World) (B : Nat) (hB : B ≤ w.heap.size) (h : RdI w B A c cs) (hn : n ≤ 300) (hg : goodCode cs) :
    Calls Try.prog 63 #[.slice A cs.length c, .int .i64 n] w fun e w' => (∃ v, e = .returned v ∧ Mov w' w.heap.size v 10000 (isMv cs n)) ∧ Below w.heap.size w w' := by
  have h1 := h.len
  have h2 := h.max
  obtain ⟨hg1, hg2, hg3, hg4⟩ := hg
  clear hg3
  have HD := Lib.hid hg4; clear hg4
  go_enter Try.func63, Try.ntmps63
  go_wp2
  go_loopg [5, 6] cs.length (fun gk v i wr => ∃ j : Nat, i = .int .i64 ((j : Int) + 1) ∧ j + gk = cs.length ∧ Mov wr w.heap.size v (j * 400) (mvTo cs n j) ∧ Below w.heap.size w wr)
  case atStart =>
    refine ⟨0, rfl, by omega, ⟨[], some ⟨w.heap.size, 0, none⟩, 0, rfl, ⟨[], ?_, fun a ha => by injection ha with ha; subst ha; exact Nat.le_refl _, RowsAt.nil⟩, List.Pairwise.nil, by simp, fun xs => ?_⟩, (Below.refl _ _).alloc (Nat.le_refl _) _⟩
    · exact Rd.of_lit (cs := []) (Blk.new w 22 #[]) (by simp) (by simp)
    · constructor
      · intro hm; cases hm
      · intro hm; exact absurd hm (mvTo_zero _ _ _)
  case round =>
    obtain ⟨j, rfl, hj, hm, hb⟩ := hrel
    obtain ⟨gj, rfl⟩ : ∃ gj : Nat, gj = gk := ⟨_, rfl⟩
    have HJ := Lib.hid hj
    have hj : j ≤ cs.length := by omega
    obtain ⟨xss, Am, cm, rfl, hrd, hso, hxl, hmem⟩ := hm
    have HM : Hid (Mov wr w.heap.size (.slice Am xss.length cm) (j * 400) (mvTo cs n j)) := ⟨xss, Am, cm, rfl, hrd, hso, hxl, hmem⟩
    clear hrd hso hxl hmem
    by_cases hcont : j < cs.length ∧ j + 1 ≤ n
    · obtain ⟨hjl, hjn⟩ := hcont
      obtain ⟨b, o, rfl, hbB, hc⟩ := (h.below hb hB).at (j := j) hjl
      have hd := hc j hjl
      clear hc
      have hdr := HD.out j hjl
      have HNext : Hid (∀ xs, mvTo cs n (j + 1) xs ↔ mvTo cs n j xs ∨ mvD (gi cs j) (n - (j + 1)) (n + 1) xs) := fun xs => mvTo_succ cs n j xs hjl hjn
      generalize gi cs j = d at *
      have HDR := Lib.hid hdr; clear hdr
      generalize (Value.slice Am xss.length cm) = vm at *
      have hjnI : (j : Int) + 1 ≤ (n : Int) := by omega
      go_upto_region 7 with (fail)
      go_cut [35] (fun s35 wc => s35 = .bool (decide (d % 2 = 1 ∧ n - (j + 1) = 0)) ∧ wr = wc)
      case first =>
        by_cases hb1 : d % 2 = 1
        · have hb1' : decide (d % 2 = 1) = true := decide_eq_true hb1
          by_cases hr : n - (j + 1) = 0
          · have hr1 : ((n : Int) - ((j : Int) + 1) == 0) = true := by simp; omega
            have HR : Hid (d % 2 = 1 ∧ n - (j + 1) = 0) := ⟨hb1, hr⟩
            clear hr hb1
            go_wp2_with (go_at_call 75; refine (bit1_any _ _ HDR.out).mono ?_; rintro e w' ⟨rfl, rfl⟩)
            go_meet
            exact ⟨by first | (rw [decide_eq_true HR.out]; done) | (rw [decide_eq_true HR.out]; simp; omega), rfl⟩
          · have hr1 : ((n : Int) - ((j : Int) + 1) == 0) = false := by simp; omega
            have HR : Hid (¬ (d % 2 = 1 ∧ n - (j + 1) = 0)) := fun h => hr h.2
            clear hr hb1
            go_wp2_with (go_at_call 75; refine (bit1_any _ _ HDR.out).mono ?_; rintro e w' ⟨rfl, rfl⟩)
            go_meet
            exact ⟨by first | (rw [decide_eq_false HR.out]; done) | (rw [decide_eq_false HR.out]; simp; omega), rfl⟩
        · have hb1' : decide (d % 2 = 1) = false := decide_eq_false hb1
          have HR : Hid (¬ (d % 2 = 1 ∧ n - (j + 1) = 0)) := fun h => hb1 h.1
          clear hb1
          go_wp2_with (go_at_call 75; refine (bit1_any _ _ HDR.out).mono ?_; rintro e w' ⟨rfl, rfl⟩)
          go_meet
          exact ⟨by first | (rw [decide_eq_false HR.out]; done) | (rw [decide_eq_false HR.out]; simp; omega), rfl⟩
      case rest =>
        obtain ⟨rfl, rfl⟩ := hcut
        go_upto_if 35 with (fail)
        go_cut [5] (fun v wc => Mov wc w.heap.size v (j * 400 + 1) (fun xs => mvTo cs n j xs ∨ (d % 2 = 1 ∧ n - (j + 1) = 0 ∧ xs = [])) ∧ Below w.heap.size w wc)
        case first =>
          by_cases hR : d % 2 = 1 ∧ n - (j + 1) = 0
          · have hR' : decide (d % 2 = 1 ∧ n - (j + 1) = 0) = true := decide_eq_true hR
            have HR := Lib.hid hR; clear hR
            obtain ⟨xss, Am, cm, rfl, hrd, hso, hxl, hmem⟩ := HM.out
            have hrd' : ∀ W, Below wr.heap.size wr W → RdR W w.heap.size wr.heap.size Am cm xss := fun W hW => hrd.below hW (Nat.le_refl _)
            have hb0 : Below wr.heap.size wr (wr.alloc (.cells #[] 3)) := (Below.refl _ _).alloc (Nat.le_refl _) _
            have hz0 : (wr.alloc (.cells #[] 3)).heap.size = wr.heap.size + 1 := by simp
            have hx0 : RdI (wr.alloc (.cells #[] 3)) (wr.heap.size + 1) (some ⟨wr.heap.size, 0, none⟩) 0 [] := Rd.of_lit (cs := []) (Blk.new wr 3 #[]) (by omega) (by simp)
            have H0 := Lib.hid (And.intro hb0 (And.intro hz0 hx0)); clear hb0 hz0 hx0
            go_wp2_with (go_at_call 76; refine (put_any _ _ _ _ xss [] _ _ (wr.heap.size + 1) (by rw [H0.out.2.1]; exact Nat.le_refl _) ((hrd' _ H0.out.1).more (by omega)) H0.out.2.2 (by have := hb.size; have := H0.out.2.1; omega) (fun a ha => by injection ha with ha; subst ha; exact hb.size) (by omega)).mono ?_; rintro e w1 ⟨A1, c1, rfl, hr1, hb1⟩)
            go_meet
            have hbw : Below w.heap.size w w1 := (hb.trans (H0.out.1.mono hb.size)).trans (hb1.mono (by have := hb.size; have := H0.out.2.1; omega))
            refine ⟨⟨_, A1, c1, rfl, hr1, sorted_putL hso, by have := len_putL xss []; omega, fun xs => ?_⟩, hbw⟩
            rw [mem_putL, hmem]
            have := HR.out
            simp [this]
          · have hR' : decide (d % 2 = 1 ∧ n - (j + 1) = 0) = false := decide_eq_false hR
            have HR := Lib.hid hR; clear hR
            go_wp2
            go_meet
            exact ⟨HM.out.congr (by omega) fun xs => ⟨fun h => .inl h, fun h => h.resolve_right fun h => HR.out ⟨h.1, h.2.1⟩⟩, hb⟩
        case rest =>
          clear HM hb hd
          obtain ⟨hm, hb⟩ := hcut
          obtain ⟨xss1, Am1, cm1, rfl, hrd, hso, hxl, hmem⟩ := hm
          have HM : Hid (Mov wc w.heap.size (.slice Am1 xss1.length cm1) (j * 400 + 1) (fun xs => mvTo cs n j xs ∨ (d % 2 = 1 ∧ n - (j + 1) = 0 ∧ xs = []))) := ⟨xss1, Am1, cm1, rfl, hrd, hso, hxl, hmem⟩
          clear hrd hso hxl hmem
          generalize (Value.slice Am1 xss1.length cm1) = v5 at *
          go_upto_region 9 with (fail)
          go_cut [44] (fun s44 wd => s44 = .bool (decide (d / 2 % 2 = 1 ∧ 0 < n - (j + 1))) ∧ wc = wd)
          case first =>
            by_cases hb1 : d / 2 % 2 = 1
            · have hb1' : decide (d / 2 % 2 = 1) = true := decide_eq_true hb1
              by_cases hr : 0 < n - (j + 1)
              · have hr1 : (0 : Int) < (n : Int) - ((j : Int) + 1) := by omega
                have HR : Hid (d / 2 % 2 = 1 ∧ 0 < n - (j + 1)) := ⟨hb1, hr⟩
                clear hr hb1
                go_wp2_with (go_at_call 75; refine (bit2_any _ _ HDR.out).mono ?_; rintro e w' ⟨rfl, rfl⟩)
                go_meet
                exact ⟨by first | (rw [decide_eq_true HR.out]; done) | (rw [decide_eq_true HR.out]; simp; omega), rfl⟩
              · have hr1 : ¬ (0 : Int) < (n : Int) - ((j : Int) + 1) := by omega
                have HR : Hid (¬ (d / 2 % 2 = 1 ∧ 0 < n - (j + 1))) := fun h => hr h.2
                clear hr hb1
                go_wp2_with (go_at_call 75; refine (bit2_any _ _ HDR.out).mono ?_; rintro e w' ⟨rfl, rfl⟩)
                go_meet
                exact ⟨by first | (rw [decide_eq_false HR.out]; done) | (rw [decide_eq_false HR.out]; simp; omega), rfl⟩
            · have hb1' : decide (d / 2 % 2 = 1) = false := decide_eq_false hb1
              have HR : Hid (¬ (d / 2 % 2 = 1 ∧ 0 < n - (j + 1))) := fun h => hb1 h.1
              clear hb1
              go_wp2_with (go_at_call 75; refine (bit2_any _ _ HDR.out).mono ?_; rintro e w' ⟨rfl, rfl⟩)
              go_meet
              exact ⟨by first | (rw [decide_eq_false HR.out]; done) | (rw [decide_eq_false HR.out]; simp; omega), rfl⟩
          case rest =>
            obtain ⟨rfl, rfl⟩ := hcut
            go_upto_if 44 with (fail)
            go_cut [5] (fun v wd => Mov wd w.heap.size v (j * 400 + 2) (fun xs => mvTo cs n j xs ∨ mvD d (n - (j + 1)) 1 xs) ∧ Below w.heap.size w wd)
            case first =>
              by_cases hR : d / 2 % 2 = 1 ∧ 0 < n - (j + 1)
              · have hR' : decide (d / 2 % 2 = 1 ∧ 0 < n - (j + 1)) = true := decide_eq_true hR
                have HR := Lib.hid hR; clear hR
                obtain ⟨xss, Am, cm, rfl, hrd, hso, hxl, hmem⟩ := HM.out
                have hrd' : ∀ W, Below wc.heap.size wc W → RdR W w.heap.size wc.heap.size Am cm xss := fun W hW => hrd.below hW (Nat.le_refl _)
                have hb0 : Below wc.heap.size wc (wc.alloc (.cells #[.int .i64 ((n : Int) - ((j : Int) + 1))] 3)) := (Below.refl _ _).alloc (Nat.le_refl _) _
                have hz0 : (wc.alloc (.cells #[.int .i64 ((n : Int) - ((j : Int) + 1))] 3)).heap.size = wc.heap.size + 1 := by simp
                have hx0 : RdI (wc.alloc (.cells #[.int .i64 ((n : Int) - ((j : Int) + 1))] 3)) (wc.heap.size + 1) (some ⟨wc.heap.size, 0, none⟩) 1 [(n : Int) - ((j : Int) + 1)] := Rd.of_lit (cs := [.int .i64 ((n : Int) - ((j : Int) + 1))]) (Blk.new wc 3 _) (by omega) (by simp)
                have H0 := Lib.hid (And.intro hb0 (And.intro hz0 hx0)); clear hb0 hz0 hx0
                go_wp2_with (go_at_call 76; refine (put_any _ _ _ _ xss [(n : Int) - ((j : Int) + 1)] _ _ (wc.heap.size + 1) (by rw [H0.out.2.1]; exact Nat.le_refl _) ((hrd' _ H0.out.1).more (by omega)) H0.out.2.2 (by have := hb.size; have := H0.out.2.1; omega) (fun a ha => by injection ha with ha; subst ha; exact hb.size) (by omega)).mono ?_; rintro e w1 ⟨A1, c1, rfl, hr1, hb1⟩)
                go_meet
                have hbw : Below w.heap.size w w1 := (hb.trans (H0.out.1.mono hb.size)).trans (hb1.mono (by have := hb.size; have := H0.out.2.1; omega))
                refine ⟨⟨_, A1, c1, rfl, hr1, sorted_putL hso, by have := len_putL xss [(n : Int) - ((j : Int) + 1)]; omega, fun xs => ?_⟩, hbw⟩
                rw [mem_putL, hmem]; show _ ↔ (mvTo cs n j xs ∨ mvD d (n - (j + 1)) 1 xs); rw [mvD_one]
                obtain ⟨k1, k2⟩ := HR.out
                rw [show ((n : Int) - ((j : Int) + 1)) = ((n - (j + 1) : Nat) : Int) by omega]
                constructor
                · rintro ((hh | hh) | hh)
                  · exact .inl hh
                  · exact .inr (.inl hh)
                  · exact .inr (.inr ⟨k1, k2, hh⟩)
                · rintro (hh | hh | hh)
                  · exact .inl (.inl hh)
                  · exact .inl (.inr hh)
                  · exact .inr hh.2.2
              · have hR' : decide (d / 2 % 2 = 1 ∧ 0 < n - (j + 1)) = false := decide_eq_false hR
                have HR := Lib.hid hR; clear hR
                go_wp2
                go_meet
                refine ⟨HM.out.congr (by omega) fun xs => ?_, hb⟩
                rw [mvD_one]
                constructor
                · rintro (hh | hh)
                  · exact .inl hh
                  · exact .inr (.inl hh)
                · rintro (hh | hh | hh)
                  · exact .inl hh
                  · exact .inr hh
                  · exact absurd ⟨hh.1, hh.2.1⟩ HR.out
            case rest =>
              clear HM hb
              obtain ⟨hm, hb⟩ := hcut
              go_wp2
              go_loopg [5, 9] (n + 1) (fun gk v t wr => ∃ t' : Nat, t = .int .i64 t' ∧ (t' + gk = n + 2 ∧ t' ≤ n + 1) ∧ 1 ≤ t' ∧ Mov wr w.heap.size v (j * 400 + 2 + t') (fun xs => mvTo cs n j xs ∨ mvD d (n - (j + 1)) t' xs) ∧ Below w.heap.size w wr)
              case atStart => exact ⟨1, rfl, ⟨by omega, by omega⟩, by omega, hm.congr (by omega) fun xs => Iff.rfl, hb⟩
              case round =>
                clear hm hb
                obtain ⟨t, rfl, ht2, ht1, hm, hb⟩ := hrel
                have HT := Lib.hid ht2
                have ht2 : t ≤ n + 1 := ht2.2
                obtain ⟨xss, Am, cm, rfl, hrd, hso, hxl, hmem⟩ := hm
                have HMm := Lib.hid hmem; clear hmem
                have HSo := Lib.hid hso; clear hso
                by_cases hcont : d / 4 % 2 = 1 ∧ 2 * t ≤ n - (j + 1)
                · obtain ⟨hd4, h2t⟩ := hcont
                  have hb1' : decide (d / 4 % 2 = 1) = true := decide_eq_true hd4
                  have h2t' : (2 : Int) * t ≤ (n : Int) - ((j : Int) + 1) := by omega
                  have hNx : Hid (∀ xs, mvD d (n - (j + 1)) (t + 1) xs ↔ mvD d (n - (j + 1)) t xs ∨ xs = [(t : Int), ((n - (j + 1) - t : Nat) : Int)]) := fun xs => mvD_succ d _ t xs hd4 ht1 h2t
                  clear hd4
                  have hrd' : ∀ W, Below wr.heap.size wr W → RdR W w.heap.size wr.heap.size Am cm xss := fun W hW => hrd.below hW (Nat.le_refl _)
                  have hb0 : Below wr.heap.size wr (wr.alloc (.cells #[.int .i64 (t : Int), .int .i64 ((n : Int) - ((j : Int) + 1) - t)] 3)) := (Below.refl _ _).alloc (Nat.le_refl _) _
                  have hz0 : (wr.alloc (.cells #[.int .i64 (t : Int), .int .i64 ((n : Int) - ((j : Int) + 1) - t)] 3)).heap.size = wr.heap.size + 1 := by simp
                  have hx0 : RdI (wr.alloc (.cells #[.int .i64 (t : Int), .int .i64 ((n : Int) - ((j : Int) + 1) - t)] 3)) (wr.heap.size + 1) (some ⟨wr.heap.size, 0, none⟩) 2 [(t : Int), (n : Int) - ((j : Int) + 1) - t] := Rd.of_lit (cs := [.int .i64 (t : Int), .int .i64 ((n : Int) - ((j : Int) + 1) - t)]) (Blk.new wr 3 _) (by omega) (by simp)
                  have H0 := Lib.hid (And.intro hb0 (And.intro hz0 hx0)); clear hb0 hz0 hx0
                  have HRd' := Lib.hid hrd'; clear hrd' hrd
                  go_wp2_with (first
                    | (go_at_call 75; refine (bit4_any _ _ HDR.out).mono ?_; rintro e w' ⟨rfl, rfl⟩)
                    | (go_at_call 76; refine (put_any _ _ _ _ xss [(t : Int), (n : Int) - ((j : Int) + 1) - t] _ _ (wr.heap.size + 1) (by rw [H0.out.2.1]; exact Nat.le_refl _) ((HRd'.out _ H0.out.1).more (by omega)) H0.out.2.2 (by have := hb.size; have := H0.out.2.1; omega) (fun a ha => by injection ha with ha; subst ha; exact hb.size) (by omega)).mono ?_; rintro e w1 ⟨A1, c1, rfl, hr1, hb1⟩))
                  have hbw : Below w.heap.size w w1 := (hb.trans (H0.out.1.mono hb.size)).trans (hb1.mono (by have := hb.size; have := H0.out.2.1; omega))
                  go_roundg (gk - 1)
                  case measure => have := HT.out; omega
                  case rel =>
                    have := HT.out
                    refine ⟨t + 1, by go_num, ⟨by omega, by omega⟩, by omega, ⟨_, A1, c1, rfl, hr1, sorted_putL HSo.out, by have := len_putL xss [(t : Int), (n : Int) - ((j : Int) + 1) - t]; omega, fun xs => ?_⟩, hbw⟩
                    rw [mem_putL, HMm.out]; show _ ↔ (mvTo cs n j xs ∨ mvD d (n - (j + 1)) (t + 1) xs); rw [hNx.out, or_assoc, show ((n : Int) - ((j : Int) + 1) - t) = ((n - (j + 1) - t : Nat) : Int) by omega]
                · have HE : Hid (¬ d / 4 % 2 = 1 ∨ n - (j + 1) < 2 * t) := by
                    by_cases hd4 : d / 4 % 2 = 1
                    · right
                      exact Nat.lt_of_not_le fun h => hcont ⟨hd4, h⟩
                    · exact .inl hd4
                  have hNx : Hid (∀ xs, mvTo cs n (j + 1) xs ↔ mvTo cs n j xs ∨ mvD d (n - (j + 1)) t xs) := fun xs => by
                    rw [HNext.out, mvD_end d (n - (j + 1)) t (n + 1) xs HE.out ht2]
                  clear HE
                  by_cases hd4 : d / 4 % 2 = 1
                  all_goals
                    first
                      | (have e5 : decide (d / 4 % 2 = 1) = true := decide_eq_true hd4
                         have h3 : ((n : Int) - ((j : Int) + 1) < 2 * t) := by
                           have : ¬ 2 * t ≤ n - (j + 1) := fun h => hcont ⟨hd4, h⟩
                           omega
                         clear hd4 hcont)
                      | (have e5 : decide (d / 4 % 2 = 1) = false := decide_eq_false hd4
                         clear hd4 hcont)
                    go_wp2_with (go_at_call 75; refine (bit4_any _ _ HDR.out).mono ?_; rintro e w' ⟨rfl, rfl⟩)
                    go_roundg (gj - 1)
                    case measure => have := HJ.out; omega
                    case rel =>
                      have := HJ.out
                      exact ⟨j + 1, by go_num, by omega, ⟨xss, Am, cm, rfl, hrd, HSo.out, by omega, fun xs => by rw [HMm.out, hNx.out]⟩, hb⟩
    · have HE : Hid (j = cs.length ∨ n ≤ j) := by
        by_cases hjl : j < cs.length
        · exact .inr (Nat.le_of_not_lt fun hk => hcont ⟨hjl, hk⟩)
        · exact .inl (by omega)
      clear hcont
      have hxl : j * 400 ≤ 10000 := by omega
      have hfin : Hid (Mov wr w.heap.size (.slice Am xss.length cm) 10000 (isMv cs n)) := HM.out.congr hxl fun xs => mvTo_end cs n j xs HE.out
      clear HM
      by_cases hjl : j < cs.length
      · have hkj : n ≤ j := by have := HE.out; omega
        go_wp2
        go_ret
        exact ⟨⟨_, rfl, hfin.out⟩, hb⟩
      · go_wp2
        go_ret
        exact ⟨⟨_, rfl, hfin.out⟩, hb⟩
end Go.Proofs.Ytbledcogbkeneaa
