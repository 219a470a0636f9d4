/- Trees: good ones, and the laws' own helpers, by contracts. Conditions: none. -/
import Derived.Test.YtadljglcbieifaaDoorStalk
import Derived.Test.YtadljglcbieifaaDoorSl
import Derived.Test.YtadljglcbieifaaDoorRow1
import Derived.Deep.RegionHeld3
namespace Go.Proofs.YtadljglcbieifaaDoor
open Go.RowKit
set_option linter.unusedVariables false

def upsOk (xs : List Int) : Prop := ∀ i, i < xs.length → -1 ≤ gi xs i ∧ gi xs i < i
instance (xs : List Int) : Decidable (upsOk xs) := by unfold upsOk; infer_instance
def treeB (xs : List Int) (s : ByteArray) : Bool := signsB s 8 && decide (xs.length = s.size) && decide (upsOk xs)
theorem treeB_no {xs : List Int} {s : ByteArray} (h : ¬ (allIn [76, 82] s = true ∧ s.size ≤ 8 ∧ xs.length = s.size ∧ upsOk xs)) : treeB xs s = false := by
  rw [Bool.eq_false_iff]
  intro ht
  simp [treeB, signsB] at ht
  exact h ⟨ht.1.1.1, by omega, ht.1.2, ht.2⟩
theorem treeB_yes {xs : List Int} {s : ByteArray} (h1 : allIn [76, 82] s = true) (h2 : s.size ≤ 8) (h3 : xs.length = s.size) (h4 : upsOk xs) : treeB xs s = true := by
  have : (s.size : Int) ≤ 8 := by omega
  simp [treeB, signsB, h1, h3, h4, this]
theorem treeB_of {xs : List Int} {s : ByteArray} (h : treeB xs s = true) : allIn [76, 82] s = true ∧ s.size ≤ 8 ∧ xs.length = s.size ∧ upsOk xs := by
  simp [treeB, signsB] at h
  exact ⟨h.1.1.1, by omega, h.1.2, h.2⟩

set_option maxHeartbeats 800000 in
theorem goodTreeI_any (A : Option Addr) (c : Nat) (xs : List Int) (s : ByteArray) (w : World) (B : Nat) (hB : B ≤ w.heap.size) (h : RdI w B A c xs) (hs : s.size ≤ maxLen) :
    Calls Tryd.prog 25 #[.agg #[.slice A xs.length c, .string s]] w fun e w' => e = .returned (.bool (treeB xs s)) ∧ Below w.heap.size w w' := by
  have h1 := h.len
  have h2 := h.max
  have hs' := hs
  unfold maxLen at hs'
  by_cases h8 : (8 : Int) < xs.length
  · rw [treeB_no fun hh => by omega]
    go_enter Tryd.func25, Tryd.ntmps25
    go_wp2
    go_ret
    exact ⟨rfl, (Below.refl _ _).alloc (Nat.le_refl _) _⟩
  · by_cases hn : xs.length = s.size
    · have ht : ((xs.length : Int) != (s.size : Int)) = false := by simp [hn]
      have h8' : s.size ≤ 8 := by omega
      have HN := Lib.hid hn; clear hn
      cases ha : allIn [76, 82] s
      · rw [treeB_no fun hh => by rw [hh.1] at ha; cases ha]
        go_enter Tryd.func25, Tryd.ntmps25
        go_wp2_with fail
        have hzW : w.heap.size < (w.alloc (.cells #[.slice A xs.length c, .string s] 29)).heap.size := by simp
        have hsW : (w.alloc (.cells #[.slice A xs.length c, .string s] 29)).heap.size = w.heap.size + 1 := by simp
        have hAW : Below w.heap.size w (w.alloc (.cells #[.slice A xs.length c, .string s] 29)) := (Below.refl _ _).alloc (Nat.le_refl _) _
        have c0W : (w.alloc (.cells #[.slice A xs.length c, .string s] 29)).cell? ⟨w.heap.size, 0, none⟩ = some (.slice A xs.length c) := by simp [go_sem]
        have c1W : (w.alloc (.cells #[.slice A xs.length c, .string s] 29)).cell? ⟨w.heap.size, 1, none⟩ = some (.string s) := by simp [go_sem]
        generalize w.alloc (.cells #[.slice A xs.length c, .string s] 29) = W at *
        have hsW := Lib.hid hsW
        refine (areMarks_any s W hs).mono ?_; rintro e w1 ⟨rfl, hb1⟩
        go_wp2
        go_ret
        exact ⟨rfl, hAW.trans (hb1.mono (by omega))⟩
      · have HA := Lib.hid ha
        go_enter Tryd.func25, Tryd.ntmps25
        go_wp2_with fail
        have hzW : w.heap.size < (w.alloc (.cells #[.slice A xs.length c, .string s] 29)).heap.size := by simp
        have hsW : (w.alloc (.cells #[.slice A xs.length c, .string s] 29)).heap.size = w.heap.size + 1 := by simp
        have hAW : Below w.heap.size w (w.alloc (.cells #[.slice A xs.length c, .string s] 29)) := (Below.refl _ _).alloc (Nat.le_refl _) _
        have c0W : (w.alloc (.cells #[.slice A xs.length c, .string s] 29)).cell? ⟨w.heap.size, 0, none⟩ = some (.slice A xs.length c) := by simp [go_sem]
        have c1W : (w.alloc (.cells #[.slice A xs.length c, .string s] 29)).cell? ⟨w.heap.size, 1, none⟩ = some (.string s) := by simp [go_sem]
        generalize w.alloc (.cells #[.slice A xs.length c, .string s] 29) = W at *
        have hsW := Lib.hid hsW
        refine (areMarks_any s W hs).mono ?_; rintro e w1 ⟨rfl, hb1⟩
        have q0 := (hb1.cell (p := ⟨w.heap.size, 0, none⟩) hzW).trans c0W
        have q1 := (hb1.cell (p := ⟨w.heap.size, 1, none⟩) hzW).trans c1W
        have hbA : Below w.heap.size w w1 := hAW.trans (hb1.mono (by omega))
        have hr1 : RdI w1 B A c xs := h.below hbA hB
        clear c0W c1W
        go_wp2
        go_loop [3, 4, 27] (fun x y i => ∃ k : Nat, i = .int .i64 k ∧ k ≤ xs.length ∧ ∀ j, j < k → -1 ≤ gi xs j ∧ gi xs j < j) (fun _ _ i => xs.length - (intOf i).toNat)
        case atStart => exact ⟨0, rfl, by omega, fun j hj => absurd hj (by omega)⟩
        case round =>
          obtain ⟨k, rfl, hk, hr⟩ := hrel
          have HR := Lib.hid hr; clear hr
          by_cases hlt : k < xs.length
          · obtain ⟨b, o, rfl, hbB, hc⟩ := hr1.at (j := k) hlt
            have hc1 := hc k hlt
            clear hc
            by_cases hx : -1 ≤ gi xs k ∧ gi xs k < k
            · obtain ⟨hx1, hx2⟩ := hx
              have HX : Hid (-1 ≤ gi xs k ∧ gi xs k < k) := ⟨hx1, hx2⟩
              go_wp2
              go_round
              case rel => exact ⟨k + 1, by go_num, by omega, fun j hj => if hjk : j = k then by subst hjk; exact HX.out else HR.out j (by omega)⟩
              case measure => simp [intOf]; omega
            · have HF : Hid (treeB xs s = false) := by show _ = _; exact treeB_no fun hh => hx (hh.2.2.2 k hlt)
              by_cases hx1 : gi xs k < -1
              · clear hx
                go_wp2
                go_ret
                exact ⟨ret_bool HF.out.symm, hbA⟩
              · have hx2 : (k : Int) ≤ gi xs k := by omega
                clear hx
                go_wp2
                go_ret
                exact ⟨ret_bool HF.out.symm, hbA⟩
          · have HT : Hid (treeB xs s = true) := by show _ = _; exact treeB_yes HA.out h8' HN.out fun i hi => HR.out i (by omega)
            go_wp2
            go_ret
            exact ⟨ret_bool HT.out.symm, hbA⟩
    · have ht : ((xs.length : Int) != (s.size : Int)) = true := by simp; omega
      rw [treeB_no fun hh => hn hh.2.2.1]
      clear hn
      go_enter Tryd.func25, Tryd.ntmps25
      go_wp2_with fail
      go_ret
      exact ⟨rfl, (Below.refl _ _).alloc (Nat.le_refl _) _⟩

set_option maxHeartbeats 800000 in
theorem goodTreeS_any (A : Option Addr) (c : Nat) (xs : List Int) (s : ByteArray) (w : World) (B : Nat) (hB : B ≤ w.heap.size) (h : RdI w B A c xs) (hs : s.size ≤ maxLen) :
    Calls Tryd.prog 68 #[.agg #[.slice A xs.length c, .string s]] w fun e w' => e = .returned (.bool (treeB xs s)) ∧ Below w.heap.size w w' := by
  have h1 := h.len
  have h2 := h.max
  have hs' := hs
  unfold maxLen at hs'
  by_cases hn : xs.length = s.size
  · have ht : ((xs.length : Int) != (s.size : Int)) = false := by simp [hn]
    have HN := Lib.hid hn; clear hn
    cases ha : signsB s 8
    · rw [treeB_no fun hh => by
        have : signsB s 8 = true := by rw [signsB, hh.1]; simp; omega
        rw [this] at ha; cases ha]
      go_enter Tryd.func68, Tryd.ntmps68
      go_wp2_with (go_at_call 133; refine (signsS_any _ _ _ hs).mono ?_; rintro e w1 ⟨rfl, rfl⟩)
      go_ret
      exact ⟨rfl, (Below.refl _ _).alloc (Nat.le_refl _) _⟩
    · have HA : Hid (allIn [76, 82] s = true ∧ s.size ≤ 8) := by
        have := ha
        simp [signsB] at this
        exact ⟨this.1, by omega⟩
      have h8 : s.size ≤ 8 := HA.out.2
      go_enter Tryd.func68, Tryd.ntmps68
      go_wp2_with fail
      have hzW : w.heap.size < (w.alloc (.cells #[.slice A xs.length c, .string s] 29)).heap.size := by simp
      have hsW : (w.alloc (.cells #[.slice A xs.length c, .string s] 29)).heap.size = w.heap.size + 1 := by simp
      have hAW : Below w.heap.size w (w.alloc (.cells #[.slice A xs.length c, .string s] 29)) := (Below.refl _ _).alloc (Nat.le_refl _) _
      have c0W : (w.alloc (.cells #[.slice A xs.length c, .string s] 29)).cell? ⟨w.heap.size, 0, none⟩ = some (.slice A xs.length c) := by simp [go_sem]
      have c1W : (w.alloc (.cells #[.slice A xs.length c, .string s] 29)).cell? ⟨w.heap.size, 1, none⟩ = some (.string s) := by simp [go_sem]
      generalize w.alloc (.cells #[.slice A xs.length c, .string s] 29) = W at *
      have hsW := Lib.hid hsW
      have hr1 : RdI W B A c xs := h.below hAW hB
      go_wp2_with (go_at_call 133; refine (signsS_any _ _ _ hs).mono ?_; rintro e w1 ⟨rfl, rfl⟩)
      go_loop [3] (fun i => ∃ k : Nat, i = .int .i64 k ∧ k ≤ xs.length ∧ ∀ j, j < k → -1 ≤ gi xs j ∧ gi xs j < j) (fun i => xs.length - (intOf i).toNat)
      case atStart => exact ⟨0, rfl, by omega, fun j hj => absurd hj (by omega)⟩
      case round =>
        obtain ⟨k, rfl, hk, hr⟩ := hrel
        have HR := Lib.hid hr; clear hr
        by_cases hlt : k < xs.length
        · obtain ⟨b, o, rfl, hbB, hc⟩ := hr1.at (j := k) hlt
          have hc1 := hc k hlt
          clear hc
          cases hx : inB (gi xs k) (-1) ((k : Int) - 1)
          · have HF : Hid (treeB xs s = false) := by show _ = _; exact treeB_no fun hh => by have := hh.2.2.2 k hlt; simp [inB] at hx; omega
            go_wp2_with (go_at_call 107; refine (l1In_any _ _ _ _).mono ?_; rintro e w' ⟨rfl, rfl⟩)
            go_ret
            exact ⟨ret_bool HF.out.symm, hAW⟩
          · have HX : Hid (-1 ≤ gi xs k ∧ gi xs k < k) := by have := hx; simp [inB] at this; exact ⟨this.1, by omega⟩
            go_wp2_with (go_at_call 107; refine (l1In_any _ _ _ _).mono ?_; rintro e w' ⟨rfl, rfl⟩)
            go_round
            case rel => exact ⟨k + 1, by go_num, by omega, fun j hj => if hjk : j = k then by subst hjk; exact HX.out else HR.out j (by omega)⟩
            case measure => simp [intOf]; omega
        · have HT : Hid (treeB xs s = true) := by show _ = _; exact treeB_yes HA.out.1 h8 HN.out fun i hi => HR.out i (by omega)
          go_wp2
          go_ret
          exact ⟨ret_bool HT.out.symm, hAW⟩
  · have ht : ((xs.length : Int) != (s.size : Int)) = true := by simp; omega
    rw [treeB_no fun hh => hn hh.2.2.1]
    clear hn
    go_enter Tryd.func68, Tryd.ntmps68
    go_wp2_with fail
    go_ret
    exact ⟨rfl, (Below.refl _ _).alloc (Nat.le_refl _) _⟩

set_option maxHeartbeats 400000 in
theorem szTree_any (A : Option Addr) (c n : Nat) (s : ByteArray) (w : World) (hn : n ≤ c) (hm : c ≤ 9223372036854775807) (hs : s.size ≤ 9223372036854775807) :
    Calls Tryd.prog 14 #[.agg #[.slice A n c, .string s], .int .i64 1048576] w fun e w' => (∃ m : Int, e = .returned (.int .i64 m) ∧ (m < 0 ∨ n + s.size ≤ 1048576 ∧ 0 ≤ m)) ∧ Below w.heap.size w w' := by
  by_cases h1 : (n : Int) ≤ 1048576
  · have ha : ∀ w, Calls Tryd.prog 67 #[.slice A n c, .int .i64 1048576] w fun e w' => e = .returned (.int .i64 (1048576 - (n : Int))) ∧ w = w' := fun w => by
      go_enter Tryd.func67, Tryd.ntmps67
      go_wp2
      go_ret
      exact ⟨rfl, rfl⟩
    by_cases h2 : (n : Int) + s.size ≤ 1048576
    · go_enter Tryd.func14, Tryd.ntmps14
      go_wp2_with (go_at_call 67; refine (ha _).mono ?_; rintro e w1 ⟨rfl, rfl⟩)
      go_ret
      exact ⟨⟨_, rfl, .inr ⟨by omega, by omega⟩⟩, (Below.refl _ _).alloc (Nat.le_refl _) _⟩
    · have h3 : 1048576 - (n : Int) - s.size < 0 := by omega
      go_enter Tryd.func14, Tryd.ntmps14
      go_wp2_with (go_at_call 67; refine (ha _).mono ?_; rintro e w1 ⟨rfl, rfl⟩)
      go_ret
      exact ⟨⟨_, rfl, .inl (by decide)⟩, (Below.refl _ _).alloc (Nat.le_refl _) _⟩
  · have ha : ∀ w, Calls Tryd.prog 67 #[.slice A n c, .int .i64 1048576] w fun e w' => e = .returned (.int .i64 (-1)) ∧ w = w' := fun w => by
      go_enter Tryd.func67, Tryd.ntmps67
      go_wp2
      go_ret
      exact ⟨rfl, rfl⟩
    go_enter Tryd.func14, Tryd.ntmps14
    go_wp2_with (go_at_call 67; refine (ha _).mono ?_; rintro e w1 ⟨rfl, rfl⟩)
    go_ret
    exact ⟨⟨_, rfl, .inl (by decide)⟩, (Below.refl _ _).alloc (Nat.le_refl _) _⟩

theorem OwnI.le' {w : World} {base base' : Nat} {v : Value} {xs : List Int} (h : OwnI w base v xs) (hb : base' ≤ base) : OwnI w base' v xs := own_ints.2 ((own_ints.1 h).le hb)
theorem OwnI.far' {w : World} {base : Nat} {v : Value} {xs : List Int} (h : OwnI w base v xs) (p : Addr) (u : Value) (hp : p.block < base) : OwnI (w.setCell p u) base v xs :=
  own_ints.2 ((own_ints.1 h).far p u fun e => by have := ((own_ints.1 h).lt _ e).1; omega)
/-- A new tree is handed back. -/
def RetT (w : World) (xs : List Int) (s : ByteArray) (e : Ending) (w' : World) : Prop :=
  ∃ A c, e = .returned (.agg #[.slice A xs.length c, .string s]) ∧ OwnI w' w.heap.size (.slice A xs.length c) xs ∧ Below w.heap.size w w'
set_option maxHeartbeats 800000 in
theorem toTree_any (A : Option Addr) (c : Nat) (xs : List Int) (s : ByteArray) (w : World) (B : Nat) (hB : B ≤ w.heap.size) (h : RdI w B A c xs) (hn : xs.length ≤ 1048576) :
    Calls Tryd.prog 16 #[.agg #[.slice A xs.length c, .string s]] w (RetT w xs s) := by
  go_enter Tryd.func16, Tryd.ntmps16
  go_wp2_with fail
  obtain ⟨W, hW⟩ : ∃ W, W = ((w.alloc (.cells #[.slice A xs.length c, .string s] 24)).alloc (.cells #[.slice none 0 0, .string ⟨#[]⟩] 29)).alloc (.cells #[.slice none 0 0, .string ⟨#[]⟩] 29) := ⟨_, rfl⟩
  have e0 : Blk W w.heap.size 24 #[.slice A xs.length c, .string s] := by rw [hW]; exact ((Blk.new w _ _).alloc _).alloc _
  have e1 : Blk W (w.heap.size + 1) 29 #[.slice none 0 0, .string ⟨#[]⟩] := by rw [hW]; exact (Blk.new_at (w.alloc _) _ _ (by simp)).alloc _
  have e2 : Blk W (w.heap.size + 1 + 1) 29 #[.slice none 0 0, .string ⟨#[]⟩] := by rw [hW]; exact Blk.new_at _ _ _ (by simp)
  have hbW : Below w.heap.size w W := by rw [hW]; first | exact bel1 _ _ | exact bel2 _ _ _ | exact bel3 _ _ _ _
  have hzW : w.heap.size + 3 ≤ W.heap.size := by rw [hW]; simp
  have hr : RdI W B A c xs := h.below hbW hB
  first | rw [← hW] | (show Calls _ _ _ _ _; rw [← hW])
  clear hW
  refine (toIntS_any A c xs W B (by omega) hr hn).mono ?_; rintro e w1 ⟨A1, c1, rfl, ho1, hb1⟩
  have f0 := e0.below hb1 (by omega)
  have f1 := e1.below hb1 (by omega)
  have f2 := e2.below hb1 (by omega)
  have q00 : w1.cell? ⟨w.heap.size, 0, none⟩ = some (.slice A xs.length c) := f0.cell 0
  have q01 : w1.cell? ⟨w.heap.size, 1, none⟩ = some (.string s) := f0.cell 1
  have q10 : w1.cell? ⟨w.heap.size + 1, 0, none⟩ = some (.slice none 0 0) := f1.cell 0
  have q11 : w1.cell? ⟨w.heap.size + 1, 1, none⟩ = some (.string ⟨#[]⟩) := f1.cell 1
  have q20 : w1.cell? ⟨w.heap.size + 1 + 1, 0, none⟩ = some (.slice none 0 0) := f2.cell 0
  have q21 : w1.cell? ⟨w.heap.size + 1 + 1, 1, none⟩ = some (.string ⟨#[]⟩) := f2.cell 1
  have z10 := f1.frozen 0
  have z11 := f1.frozen 1
  have z20 := f2.frozen 0
  have z21 := f2.frozen 1
  have hz1 := hb1.size
  go_wp2
  refine bodyPost_ret (v := .agg #[.slice A1 xs.length c1, .string s]) (by simp [results, Tryd.results16, go_sem, q10, q11]) rfl ⟨A1, c1, rfl, ?_, ?_⟩
  · refine OwnI.le' ?_ (show w.heap.size ≤ W.heap.size by omega)
    repeat (first | exact ho1 | refine OwnI.far' ?_ _ _ (by dsimp only; omega))
  · repeat (first | exact hbW.trans (hb1.mono (by omega)) | refine Below.setCell ?_ (by dsimp only; omega) _)

set_option maxHeartbeats 400000 in
theorem eqTree_same (A A' : Option Addr) (c c' : Nat) (xs : List Int) (s : ByteArray) (w : World) (B : Nat) (hB : B ≤ w.heap.size) (h : RdI w B A c xs) (h' : RdI w B A' c' xs) :
    Calls Tryd.prog 19 #[.agg #[.slice A xs.length c, .string s], .agg #[.slice A' xs.length c', .string s]] w fun e w' => e = .returned (.bool true) ∧ Below w.heap.size w w' := by
  go_enter Tryd.func19, Tryd.ntmps19
  go_wp2_with fail
  obtain ⟨W, hW⟩ : ∃ W, W = (w.alloc (.cells #[.slice A xs.length c, .string s] 29)).alloc (.cells #[.slice A' xs.length c', .string s] 29) := ⟨_, rfl⟩
  have e0 : Blk W w.heap.size 29 #[.slice A xs.length c, .string s] := by rw [hW]; exact (Blk.new w _ _).alloc _
  have e1 : Blk W (w.heap.size + 1) 29 #[.slice A' xs.length c', .string s] := by rw [hW]; exact Blk.new_at (w.alloc _) _ _ (by simp)
  have hbW : Below w.heap.size w W := by rw [hW]; first | exact bel1 _ _ | exact bel2 _ _ _ | exact bel3 _ _ _ _
  have hzW : w.heap.size + 2 ≤ W.heap.size := by rw [hW]; simp
  first | rw [← hW] | (show Calls _ _ _ _ _; rw [← hW])
  clear hW
  refine (eqIntS_any A A' c c' xs xs W B (by omega) (h.below hbW hB) (h'.below hbW hB)).mono ?_; rintro e w1 ⟨rfl, hb1⟩
  have hd : decide (xs = xs) = true := by simp
  have f0 := e0.below hb1 (by omega)
  have f1 := e1.below hb1 (by omega)
  have q01 : w1.cell? ⟨w.heap.size, 1, none⟩ = some (.string s) := f0.cell 1
  have q11 : w1.cell? ⟨w.heap.size + 1, 1, none⟩ = some (.string s) := f1.cell 1
  go_wp2
  go_ret
  exact ⟨rfl, hbW.trans (hb1.mono (by omega))⟩

end Go.Proofs.YtadljglcbieifaaDoor
