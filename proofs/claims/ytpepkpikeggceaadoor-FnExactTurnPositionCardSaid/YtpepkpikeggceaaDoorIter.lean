/- A text that is ranged over, its iterator in whatever block: laws. Conditions: none. -/
import Derived.Test.YtpepkpikeggceaaDoorStr
import Derived.Test.YtpepkpikeggceaaDoorMem
import Derived.Laws.RangeString
import Derived.Laws.RangeAny
namespace Go.Proofs.YtpepkpikeggceaaDoor
open Go.RowKit
set_option linter.unusedVariables false

/-- The iterator in block g stands at place k of s. -/
def ItAt (w : World) (g : Nat) (s : ByteArray) (k : Nat) : Prop := w.heap[g]? = some (.stringIter s k)
theorem ItAt.lt {w : World} {g k : Nat} {s : ByteArray} (h : ItAt w g s k) : g < w.heap.size := by
  rcases Nat.lt_or_ge g w.heap.size with hlt | hge
  · exact hlt
  · unfold ItAt at h; rw [Array.getElem?_eq_none hge] at h; cases h
theorem ItAt.new (w : World) (s : ByteArray) : ItAt (w.iter s 0) w.heap.size s 0 := World.iter_heap w s 0
theorem ItAt.below {w w' : World} {g k B : Nat} {s : ByteArray} (h : ItAt w g s k) (hb : Below B w w') (hg : g < B) : ItAt w' g s k := (hb.block g hg).trans h
theorem ItAt.grown {w w' : World} {g k : Nat} {s : ByteArray} {row : Option Nat} (h : ItAt w g s k) (hb : w.grownBy w' row) (hg : some g ≠ row) : ItAt w' g s k := (hb.block g h.lt hg).trans h
theorem ItAt.far {w : World} {g k : Nat} {s : ByteArray} (h : ItAt w g s k) {p : Addr} (hp : g ≠ p.block) (u : Value) : ItAt (w.setCell p u) g s k := (Below.heap_setCell w p u g hp).trans h
theorem ItAt.pos {w : World} {g k : Nat} {s : ByteArray} (h : ItAt w g s k) : w.iterPos g = k := by unfold World.iterPos; rw [h]
theorem ItAt.alloc {w : World} {g k : Nat} {s : ByteArray} (h : ItAt w g s k) (o : Obj) : ItAt (w.alloc o) g s k := (Below.heap_alloc w o g h.lt).trans h
theorem next_more {P : Program} {w : World} {g k : Nat} {s : ByteArray} (h : ItAt w g s k) (hk : k < s.size) (ha : s[k].toNat < 128) :
    ∃ w', (∀ ty, (Instr.next (.pointer (some ⟨g, 0, none⟩)) true ty).run P w = .ok (.tuple #[.bool true, .int .i64 k, .int .i32 s[k].toNat]) w') ∧ ItAt w' g s (k + 1) ∧ w.grownBy w' (some g) ∧ w'.heap.size = w.heap.size := by
  refine ⟨{ w with heap := w.heap.setIfInBounds g (.stringIter s (k + 1)) }, fun ty => ?_, ?_, ⟨rfl, rfl, rfl, by simp, fun j hj hne => ?_⟩, by simp⟩
  · have hg : w.heap[g]? = some (.stringIter s k) := h
    simp only [Instr.next, getObj, setObj, Sem.run_bind, Sem.run, hg, Result.andThen, hk, if_true, decode_ascii s k hk ha]
    simp [goInt]
  · show (w.heap.setIfInBounds g _)[g]? = _
    rw [Array.getElem?_setIfInBounds_self_of_lt h.lt]
  · show (w.heap.setIfInBounds g _)[j]? = _
    rw [Array.getElem?_setIfInBounds_ne (fun e => hne (by rw [e]))]
theorem next_end {P : Program} {w : World} {g k : Nat} {s : ByteArray} (h : ItAt w g s k) (hk : ¬ k < s.size) (ty : TypeId) :
    (Instr.next (.pointer (some ⟨g, 0, none⟩)) true ty).run P w = .ok (.tuple #[.bool false]) w := by
  have hg : w.heap[g]? = some (.stringIter s k) := h
  simp [Instr.next, getObj, Sem.run, hg, hk]
end Go.Proofs.YtpepkpikeggceaaDoor
