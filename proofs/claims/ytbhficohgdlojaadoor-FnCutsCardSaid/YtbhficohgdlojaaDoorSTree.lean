/- StalkTree: contracts and the law. Conditions: none. -/
import Derived.Test.YtbhficohgdlojaaDoorRow1
import Derived.Test.YtbhficohgdlojaaDoorStalk
import Derived.Test.YtbhficohgdlojaaDoorBytes
import Derived.Test.YtbhficohgdlojaaDoorSl
import Derived.Test.YtbhficohgdlojaaDoorDy1
import Derived.Test.YtbhficohgdlojaaDoorMemAt
namespace Go.Proofs.YtbhficohgdlojaaDoor
open Go.RowKit
set_option linter.unusedVariables false

set_option maxHeartbeats 400000 in
theorem markCap_any (A : Option Addr) (c c' : Nat) (xs : List Int) (k : Int) (w : World) (lo : Nat) (h : Own w lo 3 (.slice A xs.length c) (ints xs)) (hk : 0 ≤ k) (hb : k + xs.length ≤ 1000000000000000) (hc1 : xs.length ≤ c') (hc2 : c' ≤ c) :
    Calls Tryd.prog 96 #[.slice A xs.length c', .int .i64 k] w fun e w' =>
      e = .returned (.int .i64 (k + xs.length)) ∧ Own w' lo 3 (.slice A xs.length c) (ints (numRow k xs.length)) ∧ w.grownBy w' (Value.slice A xs.length c).ownBlock := by
  have h1 := (RdI.len (show RdI w _ A c xs from h.rd))
  have h2 := (RdI.max (show RdI w _ A c xs from h.rd))
  go_enter Tryd.func96, Tryd.ntmps96
  go_wp2
  go_loopw [1, 5] (fun k' i wr => ∃ j : Nat, i = .int .i64 j ∧ k' = .int .i64 (k + j) ∧ j ≤ xs.length ∧ Own wr lo 3 (.slice A xs.length c) (ints (numRow k j ++ xs.drop j)) ∧ w.grownBy wr (Value.slice A xs.length c).ownBlock)
    (fun _ i _ => xs.length - (intOf i).toNat)
  case atStart => exact ⟨0, rfl, by simp, by omega, by simpa [numRow] using h, ⟨rfl, rfl, rfl, Nat.le_refl _, fun _ _ _ => rfl⟩⟩
  case round =>
    clear h
    obtain ⟨j, rfl, rfl, hj, ho, hg⟩ := hrel
    have hlen : (numRow k j ++ xs.drop j).length = xs.length := by rw [List.length_append, numRow_len, List.length_drop]; omega
    by_cases hlt : j < xs.length
    · obtain ⟨g, rfl, -, hlo, hgl, hc, hf⟩ := ho.at (by rw [ints_len, hlen]; omega)
      have hcj := hc j _ (ints_at _ j (by rw [hlen]; exact hlt))
      have hfj := hf j
      clear hc hf
      have ho' : wr.ownsRow lo 3 1 (.slice (some ⟨g, 0, none⟩) xs.length c) xs.length (ints (numRow k j ++ xs.drop j)) := by
        have := ho
        unfold Own at this
        rw [ints_len, hlen] at this
        exact this
      have hs := ho'.stored j (.int .i64 (k + j))
      rw [ints_set, numRow_step k xs j hlt] at hs
      obtain ⟨hs1, hs2⟩ := hs
      have hs3 : Own (wr.setCell ⟨g, j, none⟩ (.int .i64 (k + j))) lo 3 (.slice (some ⟨g, 0, none⟩) xs.length c) (ints (numRow k (j + 1) ++ xs.drop (j + 1))) := by
        unfold Own
        rw [ints_len, List.length_append, numRow_len, List.length_drop, show j + 1 + (xs.length - (j + 1)) = xs.length by omega]
        exact hs1
      have HS := Lib.hid hs3; clear hs1 hs3
      have HG2 := Lib.hid hs2; clear hs2
      have HG := Lib.hid hg; clear hg
      have HO := Lib.hid ho; clear ho ho' hlen
      go_wp2
      go_roundw
      case rel => exact ⟨j + 1, by go_num, by go_num, by omega, HS.out, HG.out.trans HG2.out⟩
      case measure => simp [intOf]; omega
    · obtain rfl : j = xs.length := by omega
      rw [List.drop_length, List.append_nil] at ho
      have HO := Lib.hid ho; clear ho
      go_wp2
      go_ret
      exact ⟨rfl, HO.out, hg⟩


theorem Own.sets2' {w : World} {base k : Nat} {E : TypeId} {v : Value} {cs : List Value} (h : Own w base E v cs) (hk : k < base) (i j : Nat) (a b : Value) : Own ((w.setCell ⟨k, i, none⟩ a).setCell ⟨k, j, none⟩ b) base E v cs :=
  have hne : v.ownBlock ≠ some k := fun e => by have := (h.lt k e).1; omega
  (h.far ⟨k, i, none⟩ a hne).far ⟨k, j, none⟩ b hne
theorem Rd.cap {w : World} {B c c' : Nat} {A : Option Addr} {cs : List Value} (h : Rd w B A c cs) (h1 : cs.length ≤ c') (h2 : c' ≤ c) : Rd w B A c' cs :=
  ⟨h1, by have := h.2.1; omega, fun hn => by have := h.2.2.1 hn; omega, h.2.2.2⟩
/-- The path's parents. -/
def upL (n : Nat) : List Int := (List.range n).map fun (i : Nat) => (i : Int) - 1
theorem upL_len (n : Nat) : (upL n).length = n := by simp [upL]
theorem upL_succ (n : Nat) : upL (n + 1) = upL n ++ [(n : Int) - 1] := by simp [upL, List.range_succ]

/-- What the program's StalkTree hands back. -/
def StkT (w : World) (xs : List Int) (s : ByteArray) (b : Bool) (e : Ending) (w' : World) : Prop :=
  ∃ A cap, e = .returned (.tuple #[.agg #[.slice A xs.length xs.length, .string s], .bool b]) ∧ Own w' w.heap.size 3 (.slice A xs.length cap) (ints xs) ∧ xs.length ≤ cap ∧ Below w.heap.size w w'

/-- What the reference's StalkTree hands back. -/
def StkS (w : World) (xs : List Int) (s : ByteArray) (b : Bool) (e : Ending) (w' : World) : Prop :=
  ∃ A c, e = .returned (.tuple #[.agg #[.slice A xs.length c, .string s], .bool b]) ∧ RdI w' w'.heap.size A c xs ∧ Below w.heap.size w w'

end Go.Proofs.YtbhficohgdlojaaDoor
