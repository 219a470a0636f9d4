/- Whether a code and a position are valid: the program's test and the reference's. Conditions: none. -/
import Derived.Test.YtdckgplmkigjcaaValI
import Derived.Test.YtdckgplmkigjcaaValS
import Derived.Test.YtdckgplmkigjcaaCode
namespace Go.Proofs.Ytdckgplmkigjcaa
open Go.RowKit
set_option linter.unusedVariables false

/-- The first k heaps are in order, none below 0 or above 300. -/
def goodTo (p : List Int) (k : Nat) : Prop := (∀ j, j < k → 0 ≤ gi p j ∧ gi p j ≤ 300) ∧ ∀ j, j + 1 < k → gi p j ≤ gi p (j + 1)
theorem goodTo_zero (p : List Int) : goodTo p 0 := ⟨fun j h => by omega, fun j h => by omega⟩
theorem goodTo_succ {p : List Int} {k : Nat} (h : goodTo p k) (h1 : 0 ≤ gi p k ∧ gi p k ≤ 300) (h2 : 0 < k → gi p (k - 1) ≤ gi p k) : goodTo p (k + 1) := by
  refine ⟨fun j hj => ?_, fun j hj => ?_⟩
  · by_cases e : j = k
    · subst e; exact h1
    · exact h.1 j (by omega)
  · by_cases e : j + 1 = k
    · subst e; exact h2 (by omega)
    · exact h.2 j (by omega)
theorem goodH_to {p : List Int} (h : goodH p) : goodTo p p.length := by
  refine ⟨fun j hj => h.2.1 _ (gi_mem hj), fun j hj => sorted_gi h.2.2 (Nat.le_succ j) hj⟩
theorem goodTo_le {p : List Int} {k n : Nat} (h : goodTo p n) (hk : k ≤ n) : goodTo p k := ⟨fun j hj => h.1 j (by omega), fun j hj => h.2 j (by omega)⟩
theorem goodH_of {p : List Int} (hl : p.length ≤ 20) (h : goodTo p p.length) : goodH p := by
  refine ⟨hl, fun x hx => ?_, ?_⟩
  · obtain ⟨i, hi, rfl⟩ := List.getElem_of_mem hx
    have := h.1 i hi
    simpa [gi, hi] using this
  · rw [List.pairwise_iff_getElem]
    intro i j hi hj hij
    have key : ∀ d, i + d < p.length → gi p i ≤ gi p (i + d) := by
      intro d
      induction d with
      | zero => intro _; exact Int.le_refl _
      | succ d ih =>
        intro hd
        have h1 := ih (by omega)
        have h2 := h.2 (i + d) (by omega)
        exact Int.le_trans h1 h2
    have := key (j - i) (by omega)
    rw [show i + (j - i) = j by omega] at this
    simpa [gi, hi, hj] using this
noncomputable def goodHB (p : List Int) : Bool := @decide (goodH p) (Classical.propDecidable _)
theorem goodHB_t {p : List Int} (h : goodH p) : goodHB p = true := @decide_eq_true _ (Classical.propDecidable _) h
theorem goodHB_f {p : List Int} (h : ¬ goodH p) : goodHB p = false := @decide_eq_false _ (Classical.propDecidable _) h
theorem goodHB_of {p : List Int} (h : goodHB p = true) : goodH p := @of_decide_eq_true _ (Classical.propDecidable _) h
theorem goodHB_no {p : List Int} (h : goodHB p = false) : ¬ goodH p := @of_decide_eq_false _ (Classical.propDecidable _) h

set_option maxHeartbeats 800000 in
theorem goodHeapsI_any (A : Option Addr) (c : Nat) (p : List Int) (w : World) (B : Nat) (h : RdI w B A c p) :
    Calls Try.prog 87 #[.slice A p.length c] w fun e w' => e = .returned (.bool (goodHB p)) ∧ w' = w := by
  have h1 := h.len
  have h2 := h.max
  by_cases hl : p.length ≤ 20
  · have hlI : ¬ (20 : Int) < (p.length : Int) := by omega
    have HL := Lib.hid hl
    go_enter Try.func87, Try.ntmps87
    go_wp2
    go_loop [3, 11] (fun v s => ∃ (k : Nat) (l : Int), s = .int .i64 k ∧ k ≤ p.length ∧ v = .int .i64 l ∧ goodTo p k ∧ (k = 0 → l = 0) ∧ (0 < k → l = gi p (k - 1))) (fun _ s => p.length - (intOf s).toNat)
    case atStart => exact ⟨0, 0, rfl, by omega, rfl, goodTo_zero p, fun _ => rfl, fun h => absurd h (by omega)⟩
    case round =>
      obtain ⟨k, l, rfl, hk, rfl, hg, hl0, hlp⟩ := hrel
      have HG := Lib.hid hg; clear hg
      by_cases hlt : k < p.length
      · obtain ⟨b, o, rfl, hbB, hc⟩ := h.at (j := k) hlt
        have hck := hc k hlt
        have hprev : 0 < k → 0 ≤ gi p (k - 1) := fun hk0 => (HG.out.1 (k - 1) (by omega)).1
        have hbad : gi p k < l ∨ 300 < gi p k → ¬ goodH p := fun hh hg => by
          have h3 := goodH_to hg
          have h4 := h3.1 k hlt
          rcases Nat.eq_zero_or_pos k with e | e
          · have := hl0 e; omega
          · have h5 := h3.2 (k - 1) (by omega)
            rw [show k - 1 + 1 = k by omega] at h5
            have := hlp e
            omega
        have hgood : ¬ (gi p k < l) → ¬ (300 < gi p k) → goodTo p (k + 1) := fun ha hb => by
          refine goodTo_succ HG.out ⟨?_, by omega⟩ fun e => by have := hlp e; omega
          rcases Nat.eq_zero_or_pos k with e | e
          · have := hl0 e; omega
          · have := hlp e; have := hprev e; omega
        have HBAD := Lib.hid hbad; have HGOOD := Lib.hid hgood
        have hxk : gi p k = gi p (k + 1 - 1) := by rw [Nat.add_sub_cancel]
        have HXK := Lib.hid hxk
        clear hc hbad hgood hprev hl0 hlp hxk
        generalize gi p k = x at *
        by_cases ha : x < l
        · have HN : Hid (goodHB p = false) := goodHB_f (HBAD.out (.inl ha))
          go_wp2
          go_ret
          exact ⟨by rw [HN.out]; rfl, rfl⟩
        · by_cases hb : 300 < x
          · have HN : Hid (goodHB p = false) := goodHB_f (HBAD.out (.inr hb))
            go_wp2
            go_ret
            exact ⟨by rw [HN.out]; rfl, rfl⟩
          · have HN := Lib.hid (HGOOD.out ha hb)
            go_wp2
            go_round
            case rel => exact ⟨k + 1, x, by go_num, by omega, rfl, HN.out, fun e => by omega, fun _ => HXK.out⟩
            case measure => simp [intOf]; omega
      · obtain rfl : k = p.length := by omega
        have HN : Hid (goodHB p = true) := goodHB_t (goodH_of HL.out HG.out)
        clear hl0 hlp
        go_wp2
        go_ret
        exact ⟨by rw [HN.out]; rfl, rfl⟩
  · have hlI : (20 : Int) < (p.length : Int) := by omega
    have HN : Hid (goodHB p = false) := goodHB_f fun hg => hl hg.1
    go_enter Try.func87, Try.ntmps87
    go_wp2
    go_ret
    exact ⟨by rw [HN.out]; rfl, rfl⟩

theorem sm_take (p : List Int) (k : Nat) (h : k < p.length) : sm (p.take (k + 1)) = sm (p.take k) + gi p k := by
  rw [take_succ_gi p k h, sm_append]; simp [sm]
theorem sm_bound {p : List Int} (h : ∀ x ∈ p, 0 ≤ x ∧ x ≤ 300) : 0 ≤ sm p ∧ sm p ≤ 300 * p.length := by
  induction p with
  | nil => simp [sm]
  | cons x xs ih =>
    have h1 := h x List.mem_cons_self
    have h2 := ih fun y hy => h y (List.mem_cons_of_mem _ hy)
    simp only [sm, List.length_cons]
    omega
theorem sm_bound_take {p : List Int} (hg : goodH p) (k : Nat) : 0 ≤ sm (p.take k) ∧ sm (p.take k) ≤ 6000 := by
  have h1 := sm_bound (p := p.take k) fun x hx => hg.2.1 x (List.mem_of_mem_take hx)
  have h2 : (p.take k).length ≤ 20 := Nat.le_trans (by rw [List.length_take]; omega) hg.1
  omega

set_option maxHeartbeats 400000 in
theorem totalI_any (A : Option Addr) (c : Nat) (p : List Int) (w : World) (B : Nat) (h : RdI w B A c p) (hg : goodH p) :
    Calls Try.prog 88 #[.slice A p.length c] w fun e w' => e = .returned (.int .i64 (sm p)) ∧ w' = w := by
  have h1 := h.len
  have h2 := h.max
  have HSB : Hid (∀ k, 0 ≤ sm (p.take k) ∧ sm (p.take k) ≤ 6000) := fun k => sm_bound_take hg k
  clear hg
  go_enter Try.func88, Try.ntmps88
  go_wp2
  go_loop [3, 8] (fun v s => ∃ (k : Nat) (t : Int), s = .int .i64 k ∧ k ≤ p.length ∧ v = .int .i64 t ∧ t = sm (p.take k)) (fun _ s => p.length - (intOf s).toNat)
  case atStart => exact ⟨0, 0, rfl, by omega, rfl, by simp [sm]⟩
  case round =>
    obtain ⟨k, t, rfl, hk, rfl, ht⟩ := hrel
    by_cases hlt : k < p.length
    · obtain ⟨b, o, rfl, hbB, hc⟩ := h.at (j := k) hlt
      have hck := hc k hlt
      have hs := sm_take p k hlt
      rw [← ht] at hs
      have hb1 := HSB.out k
      have hb2 := HSB.out (k + 1)
      rw [← ht] at hb1
      rw [hs] at hb2
      have HS := Lib.hid hs
      clear hc hs ht
      generalize gi p k = x at *
      go_wp2
      go_round
      case rel => exact ⟨k + 1, t + x, by go_num, by omega, by go_num, HS.out.symm⟩
      case measure => simp [intOf]; omega
    · obtain rfl : k = p.length := by omega
      rw [List.take_length] at ht
      have HT := Lib.hid ht
      clear ht
      go_wp2
      go_ret
      exact ⟨by rw [← HT.out]; rfl, rfl⟩

set_option maxHeartbeats 400000 in
theorem sumS_any (A : Option Addr) (c : Nat) (p : List Int) (w : World) (B : Nat) (h : RdI w B A c p) (hg : goodH p) :
    Calls Try.prog 81 #[.slice A p.length c] w fun e w' => e = .returned (.int .i64 (sm p)) ∧ w' = w := by
  have h1 := h.len
  have h2 := h.max
  have HSB : Hid (∀ k, 0 ≤ sm (p.take k) ∧ sm (p.take k) ≤ 6000) := fun k => sm_bound_take hg k
  clear hg
  go_enter Try.func81, Try.ntmps81
  go_wp2
  go_loop [3, 4] (fun v s => ∃ (k : Nat) (t : Int), s = .int .i64 k ∧ k ≤ p.length ∧ v = .int .i64 t ∧ t = sm (p.take k)) (fun _ s => p.length - (intOf s).toNat)
  case atStart => exact ⟨0, 0, rfl, by omega, rfl, by simp [sm]⟩
  case round =>
    obtain ⟨k, t, rfl, hk, rfl, ht⟩ := hrel
    by_cases hlt : k < p.length
    · obtain ⟨b, o, rfl, hbB, hc⟩ := h.at (j := k) hlt
      have hck := hc k hlt
      have hs := sm_take p k hlt
      rw [← ht] at hs
      have hb1 := HSB.out k
      have hb2 := HSB.out (k + 1)
      rw [← ht] at hb1
      rw [hs] at hb2
      have HS := Lib.hid hs
      clear hc hs ht
      generalize gi p k = x at *
      go_wp2
      go_round
      case rel => exact ⟨k + 1, t + x, by go_num, by omega, by go_num, HS.out.symm⟩
      case measure => simp [intOf]; omega
    · obtain rfl : k = p.length := by omega
      rw [List.take_length] at ht
      have HT := Lib.hid ht
      clear ht
      go_wp2
      go_ret
      exact ⟨by rw [← HT.out]; rfl, rfl⟩

set_option maxHeartbeats 1600000 in
theorem goodHeapsS_any (A : Option Addr) (c : Nat) (p : List Int) (w : World) (B : Nat) (hB : B ≤ w.heap.size) (h : RdI w B A c p) :
    Calls Try.prog 84 #[.slice A p.length c] w fun e w' => e = .returned (.bool (goodHB p)) ∧ Below w.heap.size w w' := by
  have h1 := h.len
  have h2 := h.max
  by_cases hl : p.length ≤ 20
  · have hlI : ¬ (20 : Int) < (p.length : Int) := by omega
    have HL := Lib.hid hl
    go_enter Try.func84, Try.ntmps84
    go_wp2
    go_loopw [3] (fun s wr => ∃ k : Nat, s = .int .i64 k ∧ k ≤ p.length ∧ goodTo p k ∧ Below w.heap.size w wr) (fun s _ => p.length - (intOf s).toNat)
    case atStart => exact ⟨0, rfl, by omega, goodTo_zero p, Below.refl _ _⟩
    case round =>
      obtain ⟨k, rfl, hk, hg, hb⟩ := hrel
      have HG := Lib.hid hg; clear hg
      by_cases hlt : k < p.length
      · obtain ⟨b, o, rfl, hbB, hc⟩ := (h.below hb hB).at (j := k) hlt
        have hck := hc k hlt
        by_cases hin : 0 ≤ gi p k ∧ gi p k ≤ 300
        · have hi := hin
          have hib : inB (gi p k) 0 300 = true := by simp [inB]; omega
          rcases k with _ | k
          · have HN := Lib.hid (goodTo_succ HG.out hi fun h => absurd h (by omega))
            have HB := Lib.hid hb
            rw [Nat.add_zero] at hck
            clear hc hin hi hb
            go_wp2
            go_quiet ((go_at_call 69; exact Calls.quiet_of_same ((l1In_any _ _ _ _).mono fun _ _ ⟨he, hw⟩ => ⟨he, hw.symm⟩)))
            have HD := Lib.hid (bdrew (Below.refl wr.heap.size wr) nq)
            go_wp2
            go_roundw
            case rel => exact ⟨0 + 1, by go_num, by omega, HN.out, HB.out.trans (HD.out.mono HB.out.size)⟩
            case measure => simp [intOf]; omega
          · have hcm := hc k (by omega)
            have hk1 : (0 : Int) < (k : Int) + 1 := by omega
            by_cases hle : gi p k ≤ gi p (k + 1)
            · have HN := Lib.hid (goodTo_succ HG.out hi fun _ => hle)
              have hnl : ¬ gi p (k + 1) < gi p k := by omega
              have hdl : decide (gi p (k + 1) < gi p k) = false := decide_eq_false hnl
              have HB := Lib.hid hb
              have hw2 : IntKind.i64.wrap ((k : Int) + 1 - 1) = k := by rw [IntKind.wrap_i64]; omega
              have hw3 : IntKind.i64.wrap (k : Int) = k := by rw [IntKind.wrap_i64]; omega
              clear hc hin hi hb hle
              go_wp2
              go_quiet ((go_at_call 69; exact Calls.quiet_of_same ((l1In_any _ _ _ _).mono fun _ _ ⟨he, hw⟩ => ⟨he, hw.symm⟩)))
              clear hw2 hw3
              have HD := Lib.hid (bdrew (Below.refl wr.heap.size wr) nq)
              go_wp2
              go_roundw
              case rel => exact ⟨k + 1 + 1, by go_num, by omega, HN.out, HB.out.trans (HD.out.mono HB.out.size)⟩
              case measure => simp [intOf]; omega
            · have HN : Hid (goodHB p = false) := goodHB_f fun hg => hle ((goodH_to hg).2 k hlt)
              have hnl : gi p (k + 1) < gi p k := by omega
              have HB := Lib.hid hb
              have hw2 : IntKind.i64.wrap ((k : Int) + 1 - 1) = k := by rw [IntKind.wrap_i64]; omega
              have hw3 : IntKind.i64.wrap (k : Int) = k := by rw [IntKind.wrap_i64]; omega
              clear hc hin hi hb hle
              go_wp2
              go_quiet ((go_at_call 69; exact Calls.quiet_of_same ((l1In_any _ _ _ _).mono fun _ _ ⟨he, hw⟩ => ⟨he, hw.symm⟩)))
              have HD := Lib.hid (bdrew (Below.refl wr.heap.size wr) nq)
              clear hw2 hw3
              go_wp2
              go_ret
              exact ⟨by rw [HN.out]; rfl, HB.out.trans (HD.out.mono HB.out.size)⟩
        · have HN : Hid (goodHB p = false) := goodHB_f fun hg => hin ((goodH_to hg).1 k hlt)
          have hib : inB (gi p k) 0 300 = false := by simp [inB]; omega
          have HB := Lib.hid hb
          clear hc hin hb
          go_wp2
          go_quiet ((go_at_call 69; exact Calls.quiet_of_same ((l1In_any _ _ _ _).mono fun _ _ ⟨he, hw⟩ => ⟨he, hw.symm⟩)))
          have HD := Lib.hid (bdrew (Below.refl wr.heap.size wr) nq)
          go_wp2
          go_ret
          exact ⟨by rw [HN.out]; rfl, HB.out.trans (HD.out.mono HB.out.size)⟩
      · obtain rfl : k = p.length := by omega
        have HN : Hid (goodHB p = true) := goodHB_t (goodH_of HL.out HG.out)
        go_wp2
        go_ret
        exact ⟨by rw [HN.out]; rfl, hb⟩
  · have hlI : (20 : Int) < (p.length : Int) := by omega
    have HN : Hid (goodHB p = false) := goodHB_f fun hg => hl hg.1
    go_enter Try.func84, Try.ntmps84
    go_wp2
    go_ret
    exact ⟨by rw [HN.out]; rfl, Below.refl _ _⟩

/-- Whether a code and a position of at most so many objects are valid. -/
noncomputable def smallB (cs p : List Int) (most : Int) : Bool := goodCodeB cs && (goodHB p && decide (sm p ≤ most))

set_option maxHeartbeats 800000 in
theorem smallI_any (A A' : Option Addr) (c c' : Nat) (cs p : List Int) (most : Int) (w : World) (B : Nat) (h : RdI w B A c cs) (h' : RdI w B A' c' p) :
    Calls Try.prog 60 #[.slice A cs.length c, .slice A' p.length c', .int .i64 most] w fun e w' => e = .returned (.bool (smallB cs p most)) ∧ w' = w := by
  have HC := Lib.hid (goodCodeI_any A c cs w B h)
  have HP := Lib.hid (goodHeapsI_any A' c' p w B h')
  rcases hc : goodCodeB cs with _ | _
  · rw [hc] at HC
    have HN : Hid (smallB cs p most = false) := by show _ = _; rw [smallB, hc]; rfl
    clear hc
    go_enter Try.func60, Try.ntmps60
    go_wp2_with (go_at_call 66; (with_reducible refine (HC.out).mono ?_); rintro e w1 ⟨rfl, rfl⟩)
    go_ret
    exact ⟨by rw [HN.out]; rfl, rfl⟩
  · rw [hc] at HC
    rcases hp : goodHB p with _ | _
    · rw [hp] at HP
      have HN : Hid (smallB cs p most = false) := by show _ = _; rw [smallB, hc, hp]; rfl
      clear hc hp
      go_enter Try.func60, Try.ntmps60
      go_wp2_with (first | (go_at_call 66; (with_reducible refine (HC.out).mono ?_); rintro e w1 ⟨rfl, rfl⟩) | (go_at_call 87; (with_reducible refine (HP.out).mono ?_); rintro e w2 ⟨rfl, rfl⟩))
      go_ret
      exact ⟨by rw [HN.out]; rfl, rfl⟩
    · rw [hp] at HP
      have HT := Lib.hid (totalI_any A' c' p w B h' (goodHB_of hp))
      have HN : Hid (smallB cs p most = decide (sm p ≤ most)) := by show _ = _; rw [smallB, hc, hp]; rfl
      clear hc hp
      go_enter Try.func60, Try.ntmps60
      go_wp2_with (first | (go_at_call 66; (with_reducible refine (HC.out).mono ?_); rintro e w1 ⟨rfl, rfl⟩) | (go_at_call 87; (with_reducible refine (HP.out).mono ?_); rintro e w2 ⟨rfl, rfl⟩) | (go_at_call 88; (with_reducible refine (HT.out).mono ?_); rintro e w3 ⟨rfl, rfl⟩))
      go_ret
      exact ⟨by rw [HN.out]; rfl, rfl⟩

set_option maxHeartbeats 800000 in
theorem goodS_any (A A' : Option Addr) (c c' : Nat) (cs p : List Int) (w : World) (B : Nat) (hB : B ≤ w.heap.size) (h : RdI w B A c cs) (h' : RdI w B A' c' p) :
    Calls Try.prog 55 #[.slice A cs.length c, .slice A' p.length c'] w fun e w' => e = .returned (.bool (smallB cs p 20)) ∧ Below w.heap.size w w' := by
  have HC := Lib.hid (goodCodeS_any A c cs w B h)
  have HP := Lib.hid (goodHeapsS_any A' c' p w B hB h')
  rcases hc : goodCodeB cs with _ | _
  · rw [hc] at HC
    have HN : Hid (smallB cs p 20 = false) := by show _ = _; rw [smallB, hc]; rfl
    clear hc
    go_enter Try.func55, Try.ntmps55
    go_wp2_with (go_at_call 63; (with_reducible refine (HC.out).mono ?_); rintro e w1 ⟨rfl, rfl⟩)
    go_ret
    exact ⟨by rw [HN.out]; rfl, Below.refl _ _⟩
  · rw [hc] at HC
    rcases hp : goodHB p with _ | _
    · rw [hp] at HP
      have HN : Hid (smallB cs p 20 = false) := by show _ = _; rw [smallB, hc, hp]; rfl
      clear hc hp
      go_enter Try.func55, Try.ntmps55
      go_wp2_with (first | (go_at_call 63; (with_reducible refine (HC.out).mono ?_); rintro e w1 ⟨rfl, rfl⟩) | (go_at_call 84; (with_reducible refine (HP.out).mono ?_); rintro e w2 ⟨rfl, hb2⟩))
      go_ret
      exact ⟨by rw [HN.out]; rfl, hb2⟩
    · rw [hp] at HP
      have HT := Lib.hid fun W (hW : Below w.heap.size w W) => sumS_any A' c' p W B (h'.below hW hB) (goodHB_of hp)
      have HN : Hid (smallB cs p 20 = decide (sm p ≤ 20)) := by show _ = _; rw [smallB, hc, hp]; rfl
      clear hc hp
      go_enter Try.func55, Try.ntmps55
      go_wp2_with (first | (go_at_call 63; (with_reducible refine (HC.out).mono ?_); rintro e w1 ⟨rfl, rfl⟩) | (go_at_call 84; (with_reducible refine (HP.out).mono ?_); rintro e w2 ⟨rfl, hb2⟩) | (go_at_call 81; (with_reducible refine (HT.out _ hb2).mono ?_); rintro e w3 ⟨rfl, rfl⟩))
      go_ret
      exact ⟨by rw [HN.out]; rfl, hb2⟩
end Go.Proofs.Ytdckgplmkigjcaa
