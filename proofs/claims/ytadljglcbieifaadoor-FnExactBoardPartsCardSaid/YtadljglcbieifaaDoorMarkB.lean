/- Marks of texts and of boards, with the block that they turn, by contracts. Conditions: none. -/
import Derived.Test.YtadljglcbieifaaDoorBoard0
import Derived.Maps.AppendAt
namespace Go.Proofs.YtadljglcbieifaaDoor
open Go.RowKit
set_option linter.unusedVariables false

theorem grown_of_below {w w' : World} (h : Below w.heap.size w w') (row : Option Nat) : w.grownBy w' row := ⟨h.os, h.tape, h.output, h.size, fun k hk _ => h.block k hk⟩
set_option maxHeartbeats 400000 in
theorem markStrG_any (A : Option Addr) (c : Nat) (ss : List ByteArray) (k : Nat) (w : World) (lo : Nat) (h : Own w lo 9 (.slice A ss.length c) (scells ss)) (hlo : lo ≤ w.heap.size) (hk : 1 ≤ k) (hb : k + ss.length ≤ 100000000) :
    Calls Tryd.prog 101 #[.slice A ss.length c, .int .i64 k] w fun e w' =>
      e = .returned (.int .i64 ((k + ss.length : Nat) : Int)) ∧ Own w' lo 9 (.slice A ss.length c) (scells (marks k ss.length)) ∧ w.grownBy w' (Value.slice A ss.length c).ownBlock := by
  have h1 := h.rd.len
  have h2 := h.rd.max
  rw [scells_len] at h1
  go_enter Tryd.func101, Tryd.ntmps101
  go_wp2
  go_loopw [1, 5] (fun k' i wr => ∃ j : Nat, i = .int .i64 j ∧ k' = .int .i64 ((k + j : Nat) : Int) ∧ j ≤ ss.length ∧ Own wr lo 9 (.slice A ss.length c) (scells (marks k j ++ ss.drop j)) ∧ w.grownBy wr (Value.slice A ss.length c).ownBlock)
    (fun _ i _ => ss.length - (intOf i).toNat)
  case atStart => exact ⟨0, rfl, rfl, by omega, by simpa [marks] using h, ⟨rfl, rfl, rfl, Nat.le_refl _, fun _ _ _ => rfl⟩⟩
  case round =>
    clear h
    obtain ⟨j, rfl, rfl, hj, ho, hbl⟩ := hrel
    have hlen : (marks k j ++ ss.drop j).length = ss.length := by rw [List.length_append, marks_len, List.length_drop]; omega
    by_cases hlt : j < ss.length
    · have HO := Lib.hid ho; clear ho
      have HM : Hid ((scells (marks k j ++ ss.drop j)).length = ss.length) := by show _ = _; rw [scells_len, hlen]
      have HST := Lib.hid (marks_step k ss j hlt)
      clear hlen
      have hzr := hbl.size
      go_wp2_with fail
      refine (markText_any (k + j) wr (by omega) (by omega)).mono ?_; rintro e w1 ⟨rfl, hb1⟩
      have ho1 := HO.out.below hb1
      obtain ⟨g, rfl, -, hlo1, hgl, hc, hf⟩ := ho1.at (by rw [HM.out]; omega)
      have hgs : j < (marks k j ++ ss.drop j).length := by have := HM.out; rw [scells_len] at this; omega
      have hcj := hc j _ (gs_at _ j hgs)
      have hfj := hf j
      clear hc hf hgs
      have ho' : w1.ownsRow lo 9 1 (.slice (some ⟨g, 0, none⟩) ss.length c) ss.length (scells (marks k j ++ ss.drop j)) := by
        have := ho1
        unfold Own at this
        rw [HM.out] at this
        exact this
      have hs := ho'.stored j (.string (mt (k + j)))
      rw [HST.out] at hs
      obtain ⟨hs1, hs2⟩ := hs
      have HS : Hid (Own (w1.setCell ⟨g, j, none⟩ (.string (mt (k + j)))) lo 9 (.slice (some ⟨g, 0, none⟩) ss.length c) (scells (marks k (j + 1) ++ ss.drop (j + 1)))) := by
        show Own _ _ _ _ _
        unfold Own
        rw [scells_len, List.length_append, marks_len, List.length_drop, show j + 1 + (ss.length - (j + 1)) = ss.length by omega]
        exact hs1
      have HG2 := Lib.hid hs2; have HBL := Lib.hid hbl; clear hbl
      clear hs1 hs2 ho' ho1
      go_wp2
      go_roundw
      case rel => exact ⟨j + 1, by go_num, by go_num, by omega, HS.out, (HBL.out.trans (grown_of_below hb1 _)).trans HG2.out⟩
      case measure => simp [intOf]; omega
    · obtain rfl : j = ss.length := by omega
      rw [List.drop_length, List.append_nil] at ho
      have HO := Lib.hid ho; clear ho
      go_wp2
      go_ret
      exact ⟨rfl, HO.out, hbl⟩


set_option maxHeartbeats 400000 in
theorem markBoard_any (A : Option Addr) (c : Nat) (ss : List ByteArray) (w : World) (lo : Nat) (h : Own w lo 9 (.slice A ss.length c) (scells ss)) (hlo : lo ≤ w.heap.size) (hb : ss.length ≤ 10000000) :
    Calls Tryd.prog 42 #[.agg #[.slice A ss.length c], .int .i64 1] w fun e w' =>
      e = .returned (.int .i64 ((1 + ss.length : Nat) : Int)) ∧ Own w' lo 9 (.slice A ss.length c) (scells (marks 1 ss.length)) ∧ w.grownBy w' (Value.slice A ss.length c).ownBlock := by
  go_enter Tryd.func42, Tryd.ntmps42
  go_wp2_with fail
  obtain ⟨W, hW⟩ : ∃ W, W = w.alloc (.cells #[.slice A ss.length c] 60) := ⟨_, rfl⟩
  have hAW : Below w.heap.size w W := by rw [hW]; exact bel1 _ _
  rw [← hW]
  clear hW
  refine (markStrG_any A c ss 1 W lo (h.below hAW) (by have := hAW.size; omega) (by omega) (by omega)).mono ?_; rintro e w1 ⟨rfl, ho1, hg1⟩
  go_wp2
  go_ret
  exact ⟨rfl, ho1, (grown_of_below hAW _).trans hg1⟩
theorem own_apart {v : Value} {row : Option Nat} {a b c d : Nat} (h1 : ∀ g, v.ownBlock = some g → a ≤ g ∧ g < b) (h2 : ∀ g, row = some g → c ≤ g ∧ g < d) (h : b ≤ c ∨ d ≤ a) : v.ownBlock = none ∨ v.ownBlock ≠ row := by
  cases hv : v.ownBlock with
  | none => exact .inl rfl
  | some g =>
    refine .inr fun e => ?_
    have := h1 g hv
    have := h2 g e.symm
    omega
/-- A new board and whether there is one are handed back. -/
def RetBB (w : World) (ss : List ByteArray) (b : Bool) (e : Ending) (w' : World) : Prop :=
  ∃ A c, e = .returned (.tuple #[.agg #[.slice A ss.length c], .bool b]) ∧ Own w' w.heap.size 9 (.slice A ss.length c) (scells ss) ∧ Below w.heap.size w w'
end Go.Proofs.YtadljglcbieifaaDoor
