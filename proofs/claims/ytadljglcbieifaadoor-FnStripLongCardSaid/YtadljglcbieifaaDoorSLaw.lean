/- FnExactStripMoves, FnExactStripOver return true for every input. Conditions: none. -/
import Derived.Test.YtadljglcbieifaaDoorSMark
import Derived.Test.YtadljglcbieifaaDoorSClobS
import Derived.Test.YtadljglcbieifaaDoorSEq
namespace Go.Proofs.YtadljglcbieifaaDoor
open Go.RowKit
set_option linter.unusedVariables false

/-- The moves of a strip of a kind. -/
def movesF (kind : Int) (left : Bool) (s : ByteArray) : Nat → List ByteArray :=
  if kind = 0 then (if left = true then toadAt 84 70 1 2 s else toadAt 70 84 (-1) (-2) s)
  else if kind = 1 then (if left = true then clobBoth 76 82 s else clobBoth 82 76 s)
  else if kind = 2 then (if left = true then markAt 76 76 s else markAt 82 82 s)
  else (if left = true then markAt 76 82 s else markAt 82 76 s)
def movesL (kind : Int) (left : Bool) (s : ByteArray) : List ByteArray := acc (movesF kind left s) s.size
theorem movesL_le (kind : Int) (left : Bool) (s : ByteArray) (h : s.size ≤ 12) : (movesL kind left s).length ≤ 24 := by
  have : ∀ k, (movesF kind left s k).length ≤ 2 := by
    intro k
    unfold movesF
    have a1 := toadAt_le 84 70 1 2 s k
    have a2 := toadAt_le 70 84 (-1) (-2) s k
    have a3 := clobBoth_le 76 82 s k
    have a4 := clobBoth_le 82 76 s k
    have a5 := markAt_le 76 76 s k
    have a6 := markAt_le 82 82 s k
    have a7 := markAt_le 76 82 s k
    have a8 := markAt_le 82 76 s k
    split
    · split <;> omega
    · split
      · split <;> omega
      · split
        · split <;> omega
        · split <;> omega
  have := acc_le _ 2 this s.size
  unfold movesL
  omega
theorem four {kind : Int} (h1 : 0 ≤ kind) (h2 : kind ≤ 3) : kind = 0 ∨ kind = 1 ∨ kind = 2 ∨ kind = 3 := by omega

set_option maxRecDepth 100000 in
theorem movesS_any (kind : Int) (left : Bool) (s : ByteArray) (w : World) (h1 : 0 ≤ kind) (h2 : kind ≤ 3) (hs : s.size ≤ 12) :
    Calls Tryd.prog 154 #[.int .i64 kind, .string s, .bool left] w (RetS w (movesL kind left s)) := by
  rcases four h1 h2 with rfl | rfl | rfl | rfl <;> cases left
  · exact movesS0R_any s w hs
  · exact movesS0L_any s w hs
  · exact movesS1R_any s w hs
  · exact movesS1L_any s w hs
  · exact movesS2R_any s w hs
  · exact movesS2L_any s w hs
  · exact movesS3R_any s w hs
  · exact movesS3L_any s w hs
theorem RetS.to {w w0 w' : World} {ss : List ByteArray} {e : Ending} (h : RetS w0 ss e w') (hb : w.heap.size ≤ w0.heap.size) (hw : Below w.heap.size w w0) : RetS w ss e w' := by
  obtain ⟨A, c, he, ho, hb'⟩ := h
  exact ⟨A, c, he, ho.le hb, hw.trans (hb'.mono hb)⟩

set_option maxHeartbeats 800000 in
theorem movesI_any (kind : Int) (left : Bool) (s : ByteArray) (w : World) (h1 : 0 ≤ kind) (h2 : kind ≤ 3) (hs : s.size ≤ 12) :
    Calls Tryd.prog 108 #[.int .i64 kind, .string s, .bool left] w (RetS w (movesL kind left s)) := by
  rcases four h1 h2 with rfl | rfl | rfl | rfl <;> cases left
  · go_enter Tryd.func108, Tryd.ntmps108
    go_wp2_with (first | (go_at_call 157; (with_reducible refine (sidesR_any _).mono ?_); rintro e w1 ⟨rfl, rfl⟩) | (go_at_call 158; (with_reducible refine (toadR_any s _ hs).mono ?_); rintro e w1 ⟨A, c, rfl, ho, hb⟩))
    go_ret
    exact ⟨A, c, rfl, ho, hb⟩
  · go_enter Tryd.func108, Tryd.ntmps108
    go_wp2_with (first | (go_at_call 157; (with_reducible refine (sidesL_any _).mono ?_); rintro e w1 ⟨rfl, rfl⟩) | (go_at_call 158; (with_reducible refine (toadL_any s _ hs).mono ?_); rintro e w1 ⟨A, c, rfl, ho, hb⟩))
    go_ret
    exact ⟨A, c, rfl, ho, hb⟩
  · go_enter Tryd.func108, Tryd.ntmps108
    go_wp2_with (first | (go_at_call 157; (with_reducible refine (sidesR_any _).mono ?_); rintro e w1 ⟨rfl, rfl⟩) | (go_at_call 159; (with_reducible refine (clobR_any s _ hs).mono ?_); rintro e w1 ⟨A, c, rfl, ho, hb⟩))
    go_ret
    exact ⟨A, c, rfl, ho, hb⟩
  · go_enter Tryd.func108, Tryd.ntmps108
    go_wp2_with (first | (go_at_call 157; (with_reducible refine (sidesL_any _).mono ?_); rintro e w1 ⟨rfl, rfl⟩) | (go_at_call 159; (with_reducible refine (clobL_any s _ hs).mono ?_); rintro e w1 ⟨A, c, rfl, ho, hb⟩))
    go_ret
    exact ⟨A, c, rfl, ho, hb⟩
  · have hm : ∀ w, Calls Tryd.prog 160 #[.string s, .int .u8 82, .int .u8 82] w (RetS w (acc (markAt 82 82 s) s.size)) := fun w => mark_any 82 82 s w hs
    go_enter Tryd.func108, Tryd.ntmps108
    go_wp2_with (first | (go_at_call 157; (with_reducible refine (sidesR_any _).mono ?_); rintro e w1 ⟨rfl, rfl⟩) | (go_at_call 160; (with_reducible refine (hm _).mono ?_); rintro e w1 ⟨A, c, rfl, ho, hb⟩))
    go_ret
    exact ⟨A, c, rfl, ho, hb⟩
  · have hm : ∀ w, Calls Tryd.prog 160 #[.string s, .int .u8 76, .int .u8 76] w (RetS w (acc (markAt 76 76 s) s.size)) := fun w => mark_any 76 76 s w hs
    go_enter Tryd.func108, Tryd.ntmps108
    go_wp2_with (first | (go_at_call 157; (with_reducible refine (sidesL_any _).mono ?_); rintro e w1 ⟨rfl, rfl⟩) | (go_at_call 160; (with_reducible refine (hm _).mono ?_); rintro e w1 ⟨A, c, rfl, ho, hb⟩))
    go_ret
    exact ⟨A, c, rfl, ho, hb⟩
  · have hm : ∀ w, Calls Tryd.prog 160 #[.string s, .int .u8 82, .int .u8 76] w (RetS w (acc (markAt 82 76 s) s.size)) := fun w => mark_any 82 76 s w hs
    go_enter Tryd.func108, Tryd.ntmps108
    go_wp2_with (first | (go_at_call 157; (with_reducible refine (sidesR_any _).mono ?_); rintro e w1 ⟨rfl, rfl⟩) | (go_at_call 160; (with_reducible refine (hm _).mono ?_); rintro e w1 ⟨A, c, rfl, ho, hb⟩))
    go_ret
    exact ⟨A, c, rfl, ho, hb⟩
  · have hm : ∀ w, Calls Tryd.prog 160 #[.string s, .int .u8 76, .int .u8 82] w (RetS w (acc (markAt 76 82 s) s.size)) := fun w => mark_any 76 82 s w hs
    go_enter Tryd.func108, Tryd.ntmps108
    go_wp2_with (first | (go_at_call 157; (with_reducible refine (sidesL_any _).mono ?_); rintro e w1 ⟨rfl, rfl⟩) | (go_at_call 160; (with_reducible refine (hm _).mono ?_); rintro e w1 ⟨A, c, rfl, ho, hb⟩))
    go_ret
    exact ⟨A, c, rfl, ho, hb⟩

/-- New texts and whether there are any are handed back. -/
def RetSB (w : World) (ss : List ByteArray) (b : Bool) (e : Ending) (w' : World) : Prop :=
  ∃ A c, e = .returned (.tuple #[.slice A ss.length c, .bool b]) ∧ Own w' w.heap.size 9 (.slice A ss.length c) (scells ss) ∧ Below w.heap.size w w'
def resL (kind : Int) (left : Bool) (s : ByteArray) : List ByteArray := if stripB kind s = true then movesL kind left s else []
theorem resL_le (kind : Int) (left : Bool) (s : ByteArray) : (resL kind left s).length ≤ 24 := by
  unfold resL
  split
  · rename_i h; exact movesL_le _ _ _ (stripB_of h).2.2.1
  · simp
theorem own_nil (w : World) (E : TypeId) (base : Nat) : Own w base E (.slice none 0 0) [] := ⟨rfl, .inl ⟨rfl, rfl⟩⟩

set_option maxHeartbeats 400000 in
theorem stripMovesI_any (kind : Int) (left : Bool) (s : ByteArray) (w : World) (hs : s.size ≤ maxLen) :
    Calls Tryd.prog 50 #[.int .i64 kind, .string s, .bool left] w (RetSB w (resL kind left s) (stripB kind s)) := by
  cases hg : stripB kind s
  · have HT : Hid (resL kind left s = []) := by show _ = _; rw [resL, hg]; rfl
    go_enter Tryd.func50, Tryd.ntmps50
    go_wp2_with (go_at_call 92; (with_reducible refine (goodStripI_any kind s _ hs).mono ?_); rintro e w1 ⟨rfl, hb1⟩)
    go_ret2
    exact ⟨none, 0, by rw [HT.out]; rfl, by rw [HT.out]; exact own_nil _ _ _, hb1⟩
  · obtain ⟨h1, h2, h3, h4⟩ := stripB_of hg
    clear h4
    have HT : Hid (resL kind left s = movesL kind left s) := by show _ = _; rw [resL, if_pos hg]
    go_enter Tryd.func50, Tryd.ntmps50
    go_wp2_with (first | (go_at_call 92; (with_reducible refine (goodStripI_any kind s _ hs).mono ?_); rintro e w1 ⟨rfl, hb1⟩) | (go_at_call 108; (with_reducible refine (movesI_any kind left s _ h1 h2 h3).mono ?_); rintro e w2 ⟨A, c, rfl, ho, hb⟩))
    go_ret2
    exact ⟨A, c, by rw [HT.out]; rfl, by rw [HT.out]; exact ho.le hb1.size, hb1.trans (hb.mono hb1.size)⟩

/-- Neither player can move. -/
def overB (kind : Int) (s : ByteArray) : Bool := (movesL kind true s).isEmpty && (movesL kind false s).isEmpty
theorem len0 (l : List ByteArray) : ((l.length : Int) == 0) = l.isEmpty := by cases l <;> simp <;> omega
set_option maxHeartbeats 400000 in
theorem overI_any (kind : Int) (s : ByteArray) (w : World) (h1 : 0 ≤ kind) (h2 : kind ≤ 3) (hs : s.size ≤ 12) :
    Calls Tryd.prog 106 #[.int .i64 kind, .string s] w fun e w' => e = .returned (.bool (overB kind s)) ∧ Below w.heap.size w w' := by
  cases ha : (movesL kind true s).isEmpty
  · have ht : (((movesL kind true s).length : Int) == 0) = false := by rw [len0]; exact ha
    have HA := Lib.hid ha; clear ha
    go_enter Tryd.func106, Tryd.ntmps106
    go_wp2_with (go_at_call 108; (with_reducible refine (movesI_any kind true s _ h1 h2 hs).mono ?_); rintro e w1 ⟨A1, c1, rfl, ho1, hb1⟩)
    go_ret
    exact ⟨ret_bool (by rw [overB, HA.out]; rfl), hb1⟩
  · have ht : (((movesL kind true s).length : Int) == 0) = true := by rw [len0]; exact ha
    have HA := Lib.hid ha; clear ha
    have HL : Hid ((((movesL kind false s).length : Int) == 0) = (movesL kind false s).isEmpty) := len0 _
    go_enter Tryd.func106, Tryd.ntmps106
    go_wp2_with (first | (go_at_call 108; (with_reducible refine (movesI_any kind true s _ h1 h2 hs).mono ?_); rintro e w1 ⟨A1, c1, rfl, ho1, hb1⟩) | (go_at_call 108; (with_reducible refine (movesI_any kind false s _ h1 h2 hs).mono ?_); rintro e w2 ⟨A2, c2, rfl, ho2, hb2⟩))
    go_ret
    exact ⟨ret_bool (by rw [overB, HA.out, ← HL.out, Bool.true_and]), hb1.trans (hb2.mono hb1.size)⟩
def overV (kind : Int) (s : ByteArray) : Bool := stripB kind s && overB kind s
theorem ret_bb {a b c d : Bool} (h : a = b) (h' : c = d) : Ending.returned (.tuple #[.bool a, .bool c]) = .returned (.tuple #[.bool b, .bool d]) := by rw [h, h']
set_option maxHeartbeats 400000 in
theorem stripOverI_any (kind : Int) (s : ByteArray) (w : World) (hs : s.size ≤ maxLen) :
    Calls Tryd.prog 48 #[.int .i64 kind, .string s] w fun e w' => e = .returned (.tuple #[.bool (overV kind s), .bool (stripB kind s)]) ∧ Below w.heap.size w w' := by
  cases hg : stripB kind s
  · have HT : Hid (overV kind s = false) := by show _ = _; rw [overV, hg]; rfl
    go_enter Tryd.func48, Tryd.ntmps48
    go_wp2_with (go_at_call 92; (with_reducible refine (goodStripI_any kind s _ hs).mono ?_); rintro e w1 ⟨rfl, hb1⟩)
    go_ret2
    exact ⟨ret_bb HT.out.symm rfl, hb1⟩
  · obtain ⟨h1, h2, h3, h4⟩ := stripB_of hg
    clear h4
    have HT : Hid (overV kind s = overB kind s) := by show _ = _; rw [overV, hg, Bool.true_and]
    go_enter Tryd.func48, Tryd.ntmps48
    go_wp2_with (first | (go_at_call 92; (with_reducible refine (goodStripI_any kind s _ hs).mono ?_); rintro e w1 ⟨rfl, hb1⟩) | (go_at_call 106; (with_reducible refine (overI_any kind s _ h1 h2 h3).mono ?_); rintro e w2 ⟨rfl, hb⟩))
    go_ret2
    exact ⟨ret_bb HT.out.symm rfl, hb1.trans (hb.mono hb1.size)⟩
end Go.Proofs.YtadljglcbieifaaDoor
