/- TreeCuts: contracts of both. Conditions: none. -/
import Derived.Test.YtbhficohgdlojaaDoorCt4
import Derived.Test.YtbhficohgdlojaaDoorDy1
namespace Go.Proofs.YtbhficohgdlojaaDoor
open Go.RowKit
set_option linter.unusedVariables false

def treeCuts (xs : List Int) (s : ByteArray) (left : Bool) : List (List Int × ByteArray) := if treeB xs s then cutsL xs s left xs.length else []
theorem treeCuts_len (xs : List Int) (s : ByteArray) (left : Bool) : (treeCuts xs s left).length ≤ 8 := by
  unfold treeCuts
  split
  · rename_i h
    obtain ⟨t1, t2, t3, t4⟩ := treeB_of h
    have := cutsL_len xs s left xs.length
    omega
  · simp
def RetC (w : World) (ts : List (List Int × ByteArray)) (b : Bool) (e : Ending) (w' : World) : Prop := ∃ v, e = .returned (.tuple #[v, .bool b]) ∧ FrT w' w.heap.size v ts ∧ Below w.heap.size w w'


set_option maxHeartbeats 800000 in
theorem treeCutsI_any (A : Option Addr) (c : Nat) (xs : List Int) (s : ByteArray) (left : Bool) (w : World) (B : Nat) (hB : B ≤ w.heap.size) (h : RdI w B A c xs) (hs : s.size ≤ maxLen) :
    Calls Tryd.prog 11 #[.agg #[.slice A xs.length c, .string s], .bool left] w (RetC w (treeCuts xs s left) (treeB xs s)) := by
  have h1 := h.len
  have h2 := h.max
  go_enter Tryd.func11, Tryd.ntmps11
  go_wp2_with fail
  have hBx := box1 w 26 #[.slice A xs.length c, .string s]
  generalize w.alloc (.cells #[.slice A xs.length c, .string s] 26) = W at *
  obtain ⟨b1, hbW, hzW⟩ := hBx
  have hrW := h.below hbW hB
  cases hg : treeB xs s
  · have HT : Hid (treeCuts xs s left = []) := by show _ = _; rw [treeCuts, hg]; rfl
    have HG : Hid (∀ V, B ≤ V.heap.size → RdI V B A c xs → Calls Tryd.prog 13 #[.agg #[.slice A xs.length c, .string s]] V fun e w' => e = .returned (.bool false) ∧ Below V.heap.size V w') := fun V hV hr => by
      have := goodTreeI_any A c xs s V B hV hr hs
      rwa [hg] at this
    have HGE := Lib.hid hg; clear hg
    ((with_reducible refine (HG.out W (by omega) hrW).mono ?_); rintro e w1 ⟨rfl, hb1⟩)
    go_wp2
    refine bodyPost_ret (v := .tuple #[.slice none 0 0, .bool false]) (by simp [results, Tryd.results11, go_sem]) rfl ⟨.slice none 0 0, by rw [HGE.out], by rw [HT.out]; exact FrT.nil (World.ownsRow_nil _ _ _ 2), gtr hbW hb1⟩
  · have HT : Hid (treeCuts xs s left = cutsL xs s left xs.length) := by show _ = _; rw [treeCuts, if_pos hg]
    have HG : Hid (∀ V, B ≤ V.heap.size → RdI V B A c xs → Calls Tryd.prog 13 #[.agg #[.slice A xs.length c, .string s]] V fun e w' => e = .returned (.bool true) ∧ Below V.heap.size V w') := fun V hV hr => by
      have := goodTreeI_any A c xs s V B hV hr hs
      rwa [hg] at this
    have HC : Hid (∀ V, B ≤ V.heap.size → RdI V B A c xs → Calls Tryd.prog 34 #[.agg #[.slice A xs.length c, .string s], .bool left] V fun e w' => ∃ v, e = .returned v ∧ FrT w' V.heap.size v (cutsL xs s left xs.length) ∧ Below V.heap.size V w') := fun V hV hr => cutsI_any A c xs s left V B hV hr hg
    have HGE := Lib.hid hg; clear hg
    ((with_reducible refine (HG.out W (by omega) hrW).mono ?_); rintro e w1 ⟨rfl, hb1⟩)
    have f1 := b1.below hb1 b1.lt
    have g1 := gtr hbW hb1
    have hz1 := hb1.size
    have q0 : w1.cell? ⟨w.heap.size, 0, none⟩ = some (.slice A xs.length c) := f1.cell 0
    have q1 : w1.cell? ⟨w.heap.size, 1, none⟩ = some (.string s) := f1.cell 1
    go_wp2_with fail
    ((with_reducible refine (HC.out w1 (by omega) (hrW.below hb1 (by omega))).mono ?_); rintro e w2 ⟨v, rfl, fv, hb2⟩)
    have FV := Lib.hid fv; clear fv
    go_wp2
    refine bodyPost_ret (v := .tuple #[v, .bool true]) (by simp [results, Tryd.results11, go_sem]) rfl ⟨v, by rw [HGE.out], by rw [HT.out]; exact FV.out.le (by omega), gtr g1 hb2⟩


set_option maxHeartbeats 800000 in
theorem treeCutsS_any (A : Option Addr) (c : Nat) (xs : List Int) (s : ByteArray) (left : Bool) (w : World) (B : Nat) (hB : B ≤ w.heap.size) (h : RdI w B A c xs) (hs : s.size ≤ maxLen) :
    Calls Tryd.prog 12 #[.agg #[.slice A xs.length c, .string s], .bool left] w (RetC w (treeCuts xs s left) (treeB xs s)) := by
  have h1 := h.len
  have h2 := h.max
  go_enter Tryd.func12, Tryd.ntmps12
  go_wp2_with fail
  have hBx := box1 w 26 #[.slice A xs.length c, .string s]
  generalize w.alloc (.cells #[.slice A xs.length c, .string s] 26) = W at *
  obtain ⟨b1, hbW, hzW⟩ := hBx
  have hrW := h.below hbW hB
  cases hg : treeB xs s
  · have HT : Hid (treeCuts xs s left = []) := by show _ = _; rw [treeCuts, hg]; rfl
    have HG : Hid (∀ V, B ≤ V.heap.size → RdI V B A c xs → Calls Tryd.prog 35 #[.agg #[.slice A xs.length c, .string s]] V fun e w' => e = .returned (.bool false) ∧ Below V.heap.size V w') := fun V hV hr => by
      have := goodTreeS_any A c xs s V B hV hr hs
      rwa [hg] at this
    have HGE := Lib.hid hg; clear hg
    ((with_reducible refine (HG.out W (by omega) hrW).mono ?_); rintro e w1 ⟨rfl, hb1⟩)
    go_wp2
    refine bodyPost_ret (v := .tuple #[.slice none 0 0, .bool false]) (by simp [results, Tryd.results12, go_sem]) rfl ⟨.slice none 0 0, by rw [HGE.out], by rw [HT.out]; exact FrT.nil (World.ownsRow_nil _ _ _ 2), gtr hbW hb1⟩
  · have HT : Hid (treeCuts xs s left = cutsL xs s left xs.length) := by show _ = _; rw [treeCuts, if_pos hg]
    have HG : Hid (∀ V, B ≤ V.heap.size → RdI V B A c xs → Calls Tryd.prog 35 #[.agg #[.slice A xs.length c, .string s]] V fun e w' => e = .returned (.bool true) ∧ Below V.heap.size V w') := fun V hV hr => by
      have := goodTreeS_any A c xs s V B hV hr hs
      rwa [hg] at this
    have HC : Hid (∀ V, B ≤ V.heap.size → RdI V B A c xs → Calls Tryd.prog 36 #[.agg #[.slice A xs.length c, .string s], .bool left] V fun e w' => ∃ v, e = .returned v ∧ FrT w' V.heap.size v (cutsL xs s left xs.length) ∧ Below V.heap.size V w') := fun V hV hr => cutsS_any A c xs s left V B hV hr hg
    have HGE := Lib.hid hg; clear hg
    ((with_reducible refine (HG.out W (by omega) hrW).mono ?_); rintro e w1 ⟨rfl, hb1⟩)
    have f1 := b1.below hb1 b1.lt
    have g1 := gtr hbW hb1
    have hz1 := hb1.size
    have q0 : w1.cell? ⟨w.heap.size, 0, none⟩ = some (.slice A xs.length c) := f1.cell 0
    have q1 : w1.cell? ⟨w.heap.size, 1, none⟩ = some (.string s) := f1.cell 1
    go_wp2_with fail
    ((with_reducible refine (HC.out w1 (by omega) (hrW.below hb1 (by omega))).mono ?_); rintro e w2 ⟨v, rfl, fv, hb2⟩)
    have FV := Lib.hid fv; clear fv
    go_wp2
    refine bodyPost_ret (v := .tuple #[v, .bool true]) (by simp [results, Tryd.results12, go_sem]) rfl ⟨v, by rw [HGE.out], by rw [HT.out]; exact FV.out.le (by omega), gtr g1 hb2⟩

end Go.Proofs.YtbhficohgdlojaaDoor
