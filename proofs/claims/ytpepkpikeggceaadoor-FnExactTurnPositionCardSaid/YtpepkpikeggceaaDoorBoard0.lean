/- The laws' own helpers on boards: toStringS, szStringS, toBoard, szBoard, eqBoard, by contracts. Conditions: none. -/
import Derived.Test.YtpepkpikeggceaaDoorSEq
import Derived.Test.YtpepkpikeggceaaDoorSl
import Derived.Deep.RegionHeld3
namespace Go.Proofs.YtpepkpikeggceaaDoor
open Go.RowKit
set_option linter.unusedVariables false

theorem make_strs {w : World} {ops : Array Oper} {rest : List Oper} {o : Oper} {a : Act} {Q : Exit → Act → World → Prop} (hg : o.guard = none) (l c : Operand)
    (hop : o.op = Op.makeSlice 25 l c) (n : Nat) (hl : a.eval l = .int .i64 n) (hc : a.eval c = .int .i64 n) (hb : n ≤ 1000000000000)
    (hK : ∀ w', Own w' w.heap.size 9 (.slice (some ⟨w.heap.size, 0, none⟩) n n) (scells (List.replicate n ByteArray.empty)) → Below w.heap.size w w' → w.heap.size < w'.heap.size →
      wpList Tryd.prog ops Q rest (a.put o.dst (.slice (some ⟨w.heap.size, 0, none⟩) n n)) w') :
    wpList Tryd.prog ops Q (o :: rest) a w := by
  obtain ⟨i0, hi, hz0, hz1, hz2⟩ := info_parts infoStr
  refine wpList_make_full w hg l c 25 hop w.heap.size 9 i0 (.string ByteArray.empty) 1 Tryd.underlying25 hi hz0 hz1 .i64 .i64 n n n hl hc rfl rfl (by rw [hz2]; omega) (by unfold maxLen; omega) (Nat.le_refl _) ?_
  intro w' ho hgr
  have e : (madeCells (Value.string ByteArray.empty).cells (n * 1)).toList = scells (List.replicate n ByteArray.empty) := by
    simp [madeCells, scells, Value.cells, Nat.mod_one, List.map_const']
  rw [e] at ho
  refine hK w' (by unfold Own; rw [scells_len, List.length_replicate]; exact ho) (below_of_grown hgr) ((ho.lt _ rfl).2)

/-- New texts are handed back; nothing that was there has turned. -/
def RetR (w : World) (ss : List ByteArray) (e : Ending) (w' : World) : Prop :=
  ∃ A c, e = .returned (.slice A ss.length c) ∧ Own w' w.heap.size 9 (.slice A ss.length c) (scells ss) ∧ Below w.heap.size w w'
/-- What the walk is told of a slice of texts that came in. -/
def IsStrs (w : World) (a : Option Addr) (len cap : Nat) (ss : List ByteArray) : Prop :=
  (a = none ∧ len = 0 ∧ cap = 0 ∧ ss = []) ∨
  ∃ x, a = some x ∧ len ≤ cap ∧ cap ≤ maxLen ∧ ss.length = cap ∧ (∀ i, i < ss.length → w.cell? (x.add i) = some (.string (ss.getD i ByteArray.empty))) ∧ ∀ s ∈ ss, s.size ≤ maxLen
theorem IsStrs.rd {w : World} {a : Option Addr} {len cap : Nat} {ss : List ByteArray} (h : IsStrs w a len cap ss) :
    Rd w w.heap.size a cap (scells (ss.take len)) ∧ (ss.take len).length = len ∧ ∀ j, j < (ss.take len).length → (gs (ss.take len) j).size ≤ 9223372036854775807 := by
  rcases h with ⟨rfl, rfl, rfl, rfl⟩ | ⟨x, rfl, hl, hm, hz, hc, hw⟩
  · exact ⟨Rd.nil, rfl, fun j hj => absurd hj (by simp)⟩
  · have hlen : (ss.take len).length = len := by rw [List.length_take]; omega
    refine ⟨⟨by rw [scells_len]; omega, hm, fun h => by simp at h, fun j hj => ?_⟩, hlen, fun j hj => ?_⟩
    · have h0 := hc 0 (by rw [scells_len] at hj; omega)
      obtain ⟨b, o, spot⟩ := x
      have hsp : spot = none := by simpa [Addr.add] using World.cell?_spot h0
      subst hsp
      have hlt : b < w.heap.size := by
        rcases Nat.lt_or_ge b w.heap.size with h' | h'
        · exact h'
        · simp [Addr.add, World.cell?, Array.getElem?_eq_none h'] at h0
      refine ⟨b, o, rfl, hlt, fun i u hi => ?_⟩
      have hil : i < len := by
        rcases Nat.lt_or_ge i (scells (ss.take len)).length with h' | h'
        · rw [scells_len] at h'; omega
        · rw [List.getElem?_eq_none h'] at hi; cases hi
      have h1 := hc i (by omega)
      rw [add_none] at h1
      rw [h1, ← hi]
      have : i < ss.length := by omega
      simp [scells, List.getElem?_take_of_lt hil, this]
    · have h' : j < len := by omega
      have hjl : j < ss.length := by omega
      have e : gs (ss.take len) j = ss[j] := by simp [gs, List.getElem?_take_of_lt h', hjl]
      rw [e]
      have := hw _ (List.getElem_mem hjl)
      unfold maxLen at this
      exact this
/-- All texts together are short. -/
def Short (ss : List ByteArray) : Prop := ∀ j, j < ss.length → (gs ss j).size ≤ 1048576
/-- A new board is handed back. -/
def RetBd (w : World) (ss : List ByteArray) (e : Ending) (w' : World) : Prop :=
  ∃ A c, e = .returned (.agg #[.slice A ss.length c]) ∧ Own w' w.heap.size 9 (.slice A ss.length c) (scells ss) ∧ Below w.heap.size w w'
theorem Own.far' {w : World} {base : Nat} {E : TypeId} {v : Value} {cs : List Value} (h : Own w base E v cs) (p : Addr) (u : Value) (hp : p.block < base) : Own (w.setCell p u) base E v cs :=
  h.far p u fun e => by have := (h.lt _ e).1; omega
end Go.Proofs.YtpepkpikeggceaaDoor
