/- ReadNum of the program, by contract. Conditions: none. -/
import Derived.Test.YtfafnjlembbemaaDoorRn0
import Derived.Test.YtfafnjlembbemaaDoorShelfA
import Derived.Shelf.Strconv.Atoi
namespace Go.Proofs.YtfafnjlembbemaaDoor
open Go.RowKit
set_option linter.unusedVariables false

/-- The library's variable ErrSyntax holds an interface value. -/
def SynI (w : World) : Prop := ∃ ev, w.cell? ⟨1, 0, none⟩ = some ev ∧ (ev = .nilIface ∨ ∃ te pe, ev = .iface te pe)
theorem SynI.below {w w' : World} (h : SynI w) (hb : Below w.heap.size w w') : SynI w' := by
  obtain ⟨ev, h1, h2⟩ := h
  exact ⟨ev, (hb.cell (Lib.lt_of_cell h1)).trans h1, h2⟩
theorem itoaI_any (n : Int) (w : World) (h0 : -1000000000 ≤ n) (h1 : n ≤ 1000000000) (ht : TabI w) :
    Calls Tryd.prog 35 #[.int .i64 n] w fun e w' => e = .returned (.string (str (Lib.itoa n))) ∧ Below w.heap.size w w' :=
  (Any.strconv_Itoa Tryd.laysNm171 n (by omega) (by omega) w ht).mono fun e w' ⟨he, k, os, hw⟩ => ⟨by rw [he]; rfl, by rw [hw]; exact below_grow w os k⟩
theorem atoi_some (s : ByteArray) (n : Int) (hl : s.size ≤ 18) (h : Lib.atoi s.data.toList = some n) (w : World) :
    Calls Tryd.prog 53 #[.string s] w fun e w' => e = .returned (.tuple #[.int .i64 n, .nilIface]) ∧ Below w.heap.size w w' :=
  (Any.strconv_Atoi { Tryd.laysNm172 with } s n hl h w).mono fun e w' ⟨he, t, hw⟩ => ⟨he, by rw [hw]; exact Lib.bytesWorld_below _ _ _⟩
theorem atoi_none (s : ByteArray) (hl : s.size ≤ 18) (h : Lib.atoi s.data.toList = none) (w : World) (hv : SynI w) :
    Calls Tryd.prog 53 #[.string s] w fun e w' => ∃ N, e = .returned (.tuple #[.int .i64 0, .iface 149 (.pointer (some ⟨N, 0, none⟩))]) ∧ Below w.heap.size w w' := by
  obtain ⟨ev, h1, h2⟩ := hv
  exact (Any.strconv_Atoi_err Tryd.laysNm172 s hl h ev w h1 h2).mono fun e w' ⟨N, he, _, _, hb⟩ => ⟨N, he, hb⟩

set_option maxHeartbeats 400000 in
theorem numText_in (n : Int) (w : World) (h0 : -999999 ≤ n) (h1 : n ≤ 999999) (ht : TabI w) :
    Calls Tryd.prog 54 #[.int .i64 n] w fun e w' => e = .returned (.tuple #[.string (str (Lib.itoa n)), .bool true]) ∧ Below w.heap.size w w' := by
  have HI := Lib.hid (itoaI_any n w (by omega) (by omega) ht)
  generalize str (Lib.itoa n) = s at *
  go_enter Tryd.func54, Tryd.ntmps54
  go_wp2_with (go_at_call 35; (with_reducible refine (HI.out).mono ?_); rintro e w1 ⟨rfl, hb1⟩)
  go_ret2
  exact ⟨rfl, hb1⟩
set_option maxHeartbeats 400000 in
theorem numText_out (n : Int) (w : World) (h : n < -999999 ∨ 999999 < n) :
    Calls Tryd.prog 54 #[.int .i64 n] w fun e w' => e = .returned (.tuple #[.string ByteArray.empty, .bool false]) ∧ Below w.heap.size w w' := by
  by_cases h0 : n < -999999
  · clear h
    go_enter Tryd.func54, Tryd.ntmps54
    go_wp2
    go_ret2
    exact ⟨rfl, Below.refl _ _⟩
  · have h1 : 999999 < n := by omega
    clear h
    go_enter Tryd.func54, Tryd.ntmps54
    go_wp2
    go_ret2
    exact ⟨rfl, Below.refl _ _⟩
theorem bsne {a b : ByteArray} (h : a ≠ b) : (a.toList == b.toList) = false := by
  rw [beq_eq_false_iff_ne]
  intro e
  apply h
  rw [Lib.toList_data, Lib.toList_data] at e
  exact ByteArray.ext (Array.toList_inj.1 e)

set_option maxHeartbeats 800000 in
theorem readNumI_any (s : ByteArray) (w : World) (ht : TabI w) (hv : SynI w) (hmax : s.size ≤ 1048576) :
    Calls Tryd.prog 30 #[.string s] w fun e w' => e = .returned (.tuple #[.int .i64 (rnV s), .bool (rnB s)]) ∧ Below w.heap.size w w' := by
  by_cases h7 : 7 < s.size
  · obtain ⟨e1, e2⟩ := rn_no (s := s) (fun n h => by have := h.len; omega)
    rw [e1, e2]
    clear e1 e2
    go_enter Tryd.func30, Tryd.ntmps30
    go_wp2
    go_ret2
    exact ⟨rfl, Below.refl _ _⟩
  · cases ha : Lib.atoi s.data.toList with
    | none =>
      obtain ⟨e1, e2⟩ := rn_no (s := s) (fun n h => by rw [h.2.2, atoi_itoa] at ha; cases ha)
      rw [e1, e2]
      have HA := Lib.hid (atoi_none s (by omega) ha w hv)
      clear e1 e2 ha
      go_enter Tryd.func30, Tryd.ntmps30
      go_wp2_with (go_at_call 53; (with_reducible refine (HA.out).mono ?_); rintro e w1 ⟨N, rfl, hb1⟩)
      go_ret2
      exact ⟨rfl, hb1⟩
    | some m =>
      have HA := Lib.hid (atoi_some s m (by omega) ha w)
      by_cases hr : -999999 ≤ m ∧ m ≤ 999999
      · obtain ⟨r1, r2⟩ := hr
        have HT := Lib.hid fun W hb => numText_in m W r1 r2 (ht.below hb)
        obtain ⟨t, htt⟩ : ∃ t, t = str (Lib.itoa m) := ⟨_, rfl⟩
        rw [← htt] at HT
        by_cases hts : t = s
        · obtain ⟨e1, e2⟩ := rn_yes (s := s) (n := m) ⟨r1, r2, by rw [← hts, htt]; rfl⟩
          rw [e1, e2]
          subst hts
          clear e1 e2 ha htt
          go_enter Tryd.func30, Tryd.ntmps30
          go_wp2_with (first
            | (go_at_call 53; (with_reducible refine (HA.out).mono ?_); rintro e w1 ⟨rfl, hb1⟩)
            | (go_at_call 54; (with_reducible refine (HT.out _ hb1).mono ?_); rintro e w2 ⟨rfl, hb2⟩))
          go_ret2
          exact ⟨rfl, gtr hb1 hb2⟩
        · obtain ⟨e1, e2⟩ := rn_no (s := s) (fun n h => hts (by
            have h2 := h.2.2
            rw [h2, atoi_itoa] at ha
            injection ha with ha
            rw [htt, ← ha]
            exact (str_of s h2).symm))
          rw [e1, e2]
          have sne := bsne hts
          clear e1 e2 ha htt hts
          go_enter Tryd.func30, Tryd.ntmps30
          go_wp2_with (first
            | (go_at_call 53; (with_reducible refine (HA.out).mono ?_); rintro e w1 ⟨rfl, hb1⟩)
            | (go_at_call 54; (with_reducible refine (HT.out _ hb1).mono ?_); rintro e w2 ⟨rfl, hb2⟩))
          go_ret2
          exact ⟨rfl, gtr hb1 hb2⟩
      · obtain ⟨e1, e2⟩ := rn_no (s := s) (fun n h => hr (by
          have h2 := h.2.2
          rw [h2, atoi_itoa] at ha
          injection ha with ha
          rw [← ha]
          exact ⟨h.1, h.2.1⟩))
        rw [e1, e2]
        have HT := Lib.hid fun W => numText_out m W (by omega)
        clear e1 e2 ha hr
        go_enter Tryd.func30, Tryd.ntmps30
        go_wp2_with (first
          | (go_at_call 53; (with_reducible refine (HA.out).mono ?_); rintro e w1 ⟨rfl, hb1⟩)
          | (go_at_call 54; (with_reducible refine (HT.out _).mono ?_); rintro e w2 ⟨rfl, hb2⟩))
        go_ret2
        exact ⟨rfl, gtr hb1 hb2⟩
end Go.Proofs.YtfafnjlembbemaaDoor
