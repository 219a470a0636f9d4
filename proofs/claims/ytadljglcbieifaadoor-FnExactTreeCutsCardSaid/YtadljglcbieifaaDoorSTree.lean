/- StalkTree: contracts and the law. Conditions: none. -/
import Derived.Test.YtadljglcbieifaaDoorRow1
import Derived.Test.YtadljglcbieifaaDoorStalk
import Derived.Test.YtadljglcbieifaaDoorBytes
import Derived.Test.YtadljglcbieifaaDoorSl
import Derived.Test.YtadljglcbieifaaDoorDy1
import Derived.Test.YtadljglcbieifaaDoorMemAt
namespace Go.Proofs.YtadljglcbieifaaDoor
open Go.RowKit
set_option linter.unusedVariables false

set_option maxHeartbeats 400000 in
theorem markCap_any (A : Option Addr) (c c' : Nat) (xs : List Int) (k : Int) (w : World) (lo : Nat) (h : Own w lo 3 (.slice A xs.length c) (ints xs)) (hk : 0 ≤ k) (hb : k + xs.length ≤ 1000000000000000) (hc1 : xs.length ≤ c') (hc2 : c' ≤ c) :
    Calls Tryd.prog 73 #[.slice A xs.length c', .int .i64 k] w fun e w' =>
      e = .returned (.int .i64 (k + xs.length)) ∧ Own w' lo 3 (.slice A xs.length c) (ints (numRow k xs.length)) ∧ w.grownBy w' (Value.slice A xs.length c).ownBlock := by
  have h1 := (RdI.len (show RdI w _ A c xs from h.rd))
  have h2 := (RdI.max (show RdI w _ A c xs from h.rd))
  go_enter Tryd.func73, Tryd.ntmps73
  go_wp2
  go_loopw [1, 5] (fun k' i wr => ∃ j : Nat, i = .int .i64 j ∧ k' = .int .i64 (k + j) ∧ j ≤ xs.length ∧ Own wr lo 3 (.slice A xs.length c) (ints (numRow k j ++ xs.drop j)) ∧ w.grownBy wr (Value.slice A xs.length c).ownBlock)
    (fun _ i _ => xs.length - (intOf i).toNat)
  case atStart => exact ⟨0, rfl, by simp, by omega, by simpa [numRow] using h, ⟨rfl, rfl, rfl, Nat.le_refl _, fun _ _ _ => rfl⟩⟩
  case round =>
    clear h
    obtain ⟨j, rfl, rfl, hj, ho, hg⟩ := hrel
    have hlen : (numRow k j ++ xs.drop j).length = xs.length := by rw [List.length_append, numRow_len, List.length_drop]; omega
    by_cases hlt : j < xs.length
    · obtain ⟨g, rfl, -, hlo, hgl, hc, hf⟩ := ho.at (by rw [ints_len, hlen]; omega)
      have hcj := hc j _ (ints_at _ j (by rw [hlen]; exact hlt))
      have hfj := hf j
      clear hc hf
      have ho' : wr.ownsRow lo 3 1 (.slice (some ⟨g, 0, none⟩) xs.length c) xs.length (ints (numRow k j ++ xs.drop j)) := by
        have := ho
        unfold Own at this
        rw [ints_len, hlen] at this
        exact this
      have hs := ho'.stored j (.int .i64 (k + j))
      rw [ints_set, numRow_step k xs j hlt] at hs
      obtain ⟨hs1, hs2⟩ := hs
      have hs3 : Own (wr.setCell ⟨g, j, none⟩ (.int .i64 (k + j))) lo 3 (.slice (some ⟨g, 0, none⟩) xs.length c) (ints (numRow k (j + 1) ++ xs.drop (j + 1))) := by
        unfold Own
        rw [ints_len, List.length_append, numRow_len, List.length_drop, show j + 1 + (xs.length - (j + 1)) = xs.length by omega]
        exact hs1
      have HS := Lib.hid hs3; clear hs1 hs3
      have HG2 := Lib.hid hs2; clear hs2
      have HG := Lib.hid hg; clear hg
      have HO := Lib.hid ho; clear ho ho' hlen
      go_wp2
      go_roundw
      case rel => exact ⟨j + 1, by go_num, by go_num, by omega, HS.out, HG.out.trans HG2.out⟩
      case measure => simp [intOf]; omega
    · obtain rfl : j = xs.length := by omega
      rw [List.drop_length, List.append_nil] at ho
      have HO := Lib.hid ho; clear ho
      go_wp2
      go_ret
      exact ⟨rfl, HO.out, hg⟩


theorem Own.sets2' {w : World} {base k : Nat} {E : TypeId} {v : Value} {cs : List Value} (h : Own w base E v cs) (hk : k < base) (i j : Nat) (a b : Value) : Own ((w.setCell ⟨k, i, none⟩ a).setCell ⟨k, j, none⟩ b) base E v cs :=
  have hne : v.ownBlock ≠ some k := fun e => by have := (h.lt k e).1; omega
  (h.far ⟨k, i, none⟩ a hne).far ⟨k, j, none⟩ b hne
theorem Rd.cap {w : World} {B c c' : Nat} {A : Option Addr} {cs : List Value} (h : Rd w B A c cs) (h1 : cs.length ≤ c') (h2 : c' ≤ c) : Rd w B A c' cs :=
  ⟨h1, by have := h.2.1; omega, fun hn => by have := h.2.2.1 hn; omega, h.2.2.2⟩
/-- The path's parents. -/
def upL (n : Nat) : List Int := (List.range n).map fun (i : Nat) => (i : Int) - 1
theorem upL_len (n : Nat) : (upL n).length = n := by simp [upL]
theorem upL_succ (n : Nat) : upL (n + 1) = upL n ++ [(n : Int) - 1] := by simp [upL, List.range_succ]

/-- What the program's StalkTree hands back. -/
def StkT (w : World) (xs : List Int) (s : ByteArray) (b : Bool) (e : Ending) (w' : World) : Prop :=
  ∃ A cap, e = .returned (.tuple #[.agg #[.slice A xs.length xs.length, .string s], .bool b]) ∧ Own w' w.heap.size 3 (.slice A xs.length cap) (ints xs) ∧ xs.length ≤ cap ∧ Below w.heap.size w w'

/-- What the reference's StalkTree hands back. -/
def StkS (w : World) (xs : List Int) (s : ByteArray) (b : Bool) (e : Ending) (w' : World) : Prop :=
  ∃ A c, e = .returned (.tuple #[.agg #[.slice A xs.length c, .string s], .bool b]) ∧ RdI w' w'.heap.size A c xs ∧ Below w.heap.size w w'

set_option maxHeartbeats 400000 in
theorem eqTree_ok (A A' : Option Addr) (c c' : Nat) (xs : List Int) (s : ByteArray) (w : World) (B : Nat) (hB : B ≤ w.heap.size) (h : RdI w B A c xs) (h' : RdI w B A' c' xs) :
    Calls Tryd.prog 19 #[.agg #[.slice A xs.length c, .string s], .agg #[.slice A' xs.length c', .string s]] w fun e w' => e = .returned (.bool true) ∧ Below w.heap.size w w' := by
  go_enter Tryd.func19, Tryd.ntmps19
  go_wp2_with fail
  have hB2 := box2 w 29 29 #[.slice A xs.length c, .string s] #[.slice A' xs.length c', .string s]
  generalize (w.alloc (.cells #[.slice A xs.length c, .string s] 29)).alloc (.cells #[.slice A' xs.length c', .string s] 29) = W at *
  obtain ⟨b1, b2, hbW, hzW⟩ := hB2
  ((with_reducible refine (eqIntS_any _ _ _ _ _ _ _ B (by omega) (h.below hbW hB) (h'.below hbW hB)).mono ?_); rintro e w1 ⟨rfl, hb1⟩)
  have b11 := b1.below hb1 (by omega)
  have b21 := b2.below hb1 (by omega)
  have p1 : w1.cell? ⟨w.heap.size, 1, none⟩ = some (.string s) := b11.cell 1
  have q1 : w1.cell? ⟨w.heap.size + 1, 1, none⟩ = some (.string s) := b21.cell 1
  have hgg := hbW.trans (hb1.mono (by omega))
  clear hzW
  go_wp2
  go_ret
  exact ⟨rfl, hgg⟩

set_option maxHeartbeats 400000 in
theorem markTree_any (A : Option Addr) (c : Nat) (xs : List Int) (s : ByteArray) (w : World) (lo : Nat) (h : Own w lo 3 (.slice A xs.length c) (ints xs)) (hl : xs.length ≤ 1000000) (hc : xs.length ≤ c) :
    Calls Tryd.prog 20 #[.agg #[.slice A xs.length xs.length, .string s], .int .i64 1] w fun e w' => e = .returned (.int .i64 (1 + xs.length)) ∧ Own w' lo 3 (.slice A xs.length c) (ints (numRow 1 xs.length)) ∧ w.grownBy w' (Value.slice A xs.length c).ownBlock := by
  go_enter Tryd.func20, Tryd.ntmps20
  go_wp2_with fail
  have hbW := bel1 w (.cells #[.slice A xs.length xs.length, .string s] 29)
  have hgW : w.grownBy (w.alloc (.cells #[.slice A xs.length xs.length, .string s] 29)) (Value.slice A xs.length c).ownBlock := ⟨hbW.os, hbW.tape, hbW.output, hbW.size, fun k hk _ => hbW.block k hk⟩
  generalize w.alloc (.cells #[.slice A xs.length xs.length, .string s] 29) = W at *
  ((with_reducible refine (markCap_any _ _ _ _ _ _ _ (h.below hbW) (by decide) (by omega) (Nat.le_refl _) hc).mono ?_); rintro e w1 ⟨rfl, ho1, hg1⟩)
  have HO := Lib.hid ho1
  have hg2 := hgW.trans hg1
  clear ho1
  go_wp2
  go_ret
  exact ⟨rfl, HO.out, hg2⟩

end Go.Proofs.YtadljglcbieifaaDoor
