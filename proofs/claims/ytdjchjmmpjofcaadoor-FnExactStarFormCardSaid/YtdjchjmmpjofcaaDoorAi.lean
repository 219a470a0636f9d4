/- A small number of base 36 put behind bytes, by contract. Conditions: none. -/
import Derived.Test.YtdjchjmmpjofcaaDoorBytes
import Derived.Test.YtdjchjmmpjofcaaDoorSl
namespace Go.Proofs.YtdjchjmmpjofcaaDoor
open Go.RowKit
set_option linter.unusedVariables false

/-- The digits of base 36. -/
def dig : List UInt8 := [48, 49, 50, 51, 52, 53, 54, 55, 56, 57, 97, 98, 99, 100, 101, 102, 103, 104, 105, 106, 107, 108, 109, 110, 111, 112, 113, 114, 115, 116, 117, 118, 119, 120, 121, 122]
def dgt (u : Nat) : UInt8 := dig.getD u 0
theorem pow36 (w : World) : Calls Tryd.prog 91 #[.int .i64 36] w fun e w' => e = .returned (.bool false) ∧ w' = w := by
  go_enter Tryd.func91, Tryd.ntmps91
  go_wp2
  go_ret
  exact ⟨rfl, rfl⟩
theorem dig_is (u : Nat) (hu : u ≤ 15) (h : u < (str dig).size) : (str dig)[u] = dgt u := by
  have : u = 0 ∨ u = 1 ∨ u = 2 ∨ u = 3 ∨ u = 4 ∨ u = 5 ∨ u = 6 ∨ u = 7 ∨ u = 8 ∨ u = 9 ∨ u = 10 ∨ u = 11 ∨ u = 12 ∨ u = 13 ∨ u = 14 ∨ u = 15 := by omega
  rcases this with rfl | rfl | rfl | rfl | rfl | rfl | rfl | rfl | rfl | rfl | rfl | rfl | rfl | rfl | rfl | rfl <;> rfl

theorem rd_cell {w : World} {g o : Nat} {u : Value} {B : Nat} (h : w.cell? ⟨g, o, none⟩ = some u) (hB : g < B) : Rd w B (some ⟨g, o, none⟩) 1 [u] := by
  refine ⟨Nat.le_refl _, by unfold maxLen; omega, fun h => by simp at h, fun j hj => ⟨g, o, rfl, hB, fun i v hi => ?_⟩⟩
  cases i with
  | zero => simp at hi; subst hi; rw [Nat.add_zero]; exact h
  | succ i => simp at hi
set_option maxHeartbeats 1600000 in
theorem fmt_any (A : Option Addr) (c base : Nat) (bs : List UInt8) (u : Nat) (w : World) (hu : u ≤ 15) (hl : bs.length ≤ 1000) (hb : base ≤ w.heap.size) (h : Own w base 5 (.slice A bs.length c) (bcells bs)) :
    Calls Tryd.prog 83 #[.slice A bs.length c, .int .u64 (u : Int), .int .i64 36, .bool false, .bool true] w fun e w' => ∃ A' c', e = .returned (.tuple #[.slice A' (bs.length + 1) c', .string ⟨#[]⟩]) ∧ Own w' base 5 (.slice A' (bs.length + 1) c') (bcells (bs ++ [dgt u])) ∧ Below base w w' := by
  have HP := Lib.hid fun W => pow36 W
  have HD := Lib.hid (dig_is u hu)
  have hne : (Value.slice A bs.length c).ownBlock ≠ some w.heap.size := fun e => by have := (h.lt _ e).2; omega
  have HNE := Lib.hid hne
  clear hne
  have hu36 : ¬ (36 : Int) ≤ (u : Int) := by omega
  have HO := Lib.hid h
  clear h
  go_enter Tryd.func83, Tryd.ntmps83
  go_wp2_with fail
  have i0 : Blk (w.alloc (.cells Tryd.zeroCells118 118)) w.heap.size 118 Tryd.zeroCells118 := Blk.new _ _ _
  have hAW : Below base w (w.alloc (.cells Tryd.zeroCells118 118)) := (Below.refl _ _).alloc hb _
  have hsz : (w.alloc (.cells Tryd.zeroCells118 118)).heap.size = w.heap.size + 1 := by simp
  have HO1 := Lib.hid (HO.out.below (bel1 w (.cells Tryd.zeroCells118 118)))
  generalize w.alloc (.cells Tryd.zeroCells118 118) = W at *
  have c64 : W.cell? ⟨w.heap.size, 64, none⟩ = some (.int .u8 0) := (i0.cell 64).trans (by kernel_rfl)
  have f64 : W.frozen? ⟨w.heap.size, 64, none⟩ = false := i0.frozen 64
  clear HO i0
  ((with_reducible refine (HP.out W).mono ?_); rintro e w1 ⟨rfl, rfl⟩)
  go_wp2_with fail
  go_loopw [1, 13] (fun x i wr => x = .int .u64 (u : Int) ∧ i = .int .i64 65 ∧ wr = w1) (fun _ _ _ => 0)
  case atStart => exact ⟨rfl, rfl, rfl⟩
  case round =>
    obtain ⟨rfl, rfl, rfl⟩ := hrel
    have HC := Lib.hid fun d : Int => World.cell?_setCell_same _ _ (.int .u8 d) c64
    go_wp2_with (at_builtin; refine wpList_append_rd rfl _ _ 64 5 (.int .u8 0) 1 rfl Tryd.underlying64 infoByte rfl (by omega) base (.slice A bs.length c) (bcells bs) (by rfl) (HO1.out.far ⟨w.heap.size, 64, none⟩ _ HNE.out) (wr.heap.size) (some ⟨w.heap.size, 64, none⟩) 1 1 [_] (by rfl) rfl (rd_cell (HC.out _) (by omega)) (fun v hv => by simp at hv; subst hv; rfl) (by rw [bcells_len]; simp; omega) (by simp; omega) ?_; intro A5 c5 w5 ho5 hb5 hg5)
    have hd : u < (str dig).size := by show u < 36; omega
    have ho6 : Own w5 base 5 (.slice A5 ((bcells bs).length + 1) c5) (bcells bs ++ [.int .u8 (((str dig)[u]).toNat : Int)]) := ho5
    rw [HD.out, bcells_len, ← bcells_snoc] at ho6
    have HO6 := Lib.hid ho6
    have HB6 := Lib.hid ((hAW.setCell (by show base ≤ w.heap.size; exact hb) _).trans hb5)
    clear ho6 ho5 hb5 hg5 hAW c64 f64
    go_wp2
    go_ret2
    refine ⟨A5, c5, ?_, HO6.out, HB6.out⟩
    show Ending.returned (.tuple #[.slice A5 ((bcells bs).length + 1) c5, .string ⟨#[]⟩]) = _
    rw [bcells_len]

set_option maxHeartbeats 800000 in
theorem appendInt_any (A : Option Addr) (c base : Nat) (bs : List UInt8) (u : Nat) (w : World) (hu : u ≤ 15) (hl : bs.length ≤ 1000) (hb : base ≤ w.heap.size) (h : Own w base 5 (.slice A bs.length c) (bcells bs)) :
    Calls Tryd.prog 33 #[.slice A bs.length c, .int .i64 (u : Int), .int .i64 36] w fun e w' => ∃ A' c', e = .returned (.slice A' (bs.length + 1) c') ∧ Own w' base 5 (.slice A' (bs.length + 1) c') (bcells (bs ++ [dgt u])) ∧ Below base w w' := by
  have HF := Lib.hid (fmt_any A c base bs u w hu hl hb h)
  have hw : IntKind.u64.wrap (u : Int) = (u : Int) := by simp [IntKind.wrap, IntKind.bits, IntKind.signed]; omega
  have hu0 : ¬ (u : Int) < 0 := by omega
  have HA : Hid (Calls Tryd.prog 62 #[.slice A bs.length c, .int .u64 (u : Int), .int .i64 36] w fun e w' => ∃ A' c', e = .returned (.slice A' (bs.length + 1) c') ∧ Own w' base 5 (.slice A' (bs.length + 1) c') (bcells (bs ++ [dgt u])) ∧ Below base w w') := Lib.hid (by
    clear h
    go_enter Tryd.func62, Tryd.ntmps62
    go_wp2_with (go_at_call 83; (with_reducible refine HF.out.mono ?_); rintro e w1 ⟨A1, c1, rfl, ho1, hb1⟩)
    go_ret
    exact ⟨A1, c1, rfl, ho1, hb1⟩)
  have HI : Hid (Calls Tryd.prog 42 #[.slice A bs.length c, .int .i64 (u : Int), .int .i64 36] w fun e w' => ∃ A' c', e = .returned (.slice A' (bs.length + 1) c') ∧ Own w' base 5 (.slice A' (bs.length + 1) c') (bcells (bs ++ [dgt u])) ∧ Below base w w') := Lib.hid (by
    clear h HF
    go_enter Tryd.func42, Tryd.ntmps42
    go_wp2_with (go_at_call 62; (with_reducible refine HA.out.mono ?_); rintro e w1 ⟨A1, c1, rfl, ho1, hb1⟩)
    go_ret
    exact ⟨A1, c1, rfl, ho1, hb1⟩)
  clear h HF HA
  go_enter Tryd.func33, Tryd.ntmps33
  go_wp2_with (go_at_call 42; (with_reducible refine HI.out.mono ?_); rintro e w1 ⟨A1, c1, rfl, ho1, hb1⟩)
  go_ret
  exact ⟨A1, c1, rfl, ho1, hb1⟩
end Go.Proofs.YtdjchjmmpjofcaaDoor
