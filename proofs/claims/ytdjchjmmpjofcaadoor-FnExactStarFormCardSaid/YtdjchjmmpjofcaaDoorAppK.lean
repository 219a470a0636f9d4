/- Rows whose elements have several cells: append, with the place of the new row. Conditions: none. -/
import Derived.Test.YtdjchjmmpjofcaaDoorMemAt
namespace Go.Proofs.YtdjchjmmpjofcaaDoor
open Go.RowKit
set_option linter.unusedVariables false

theorem ownsK_form {w : World} {base : Nat} {E : TypeId} {k n : Nat} {v : Value} {cs : List Value} (h : w.ownsRow base E k v n cs) : ∃ A c, v = .slice A n c := by
  rcases h.2 with ⟨hv, h0⟩ | ⟨g, cap, cur, hv, _⟩
  · exact ⟨none, 0, by rw [hv, h0]⟩
  · exact ⟨_, _, hv⟩
theorem ownsK_below {w w' : World} {base : Nat} {E : TypeId} {k n : Nat} {v : Value} {cs : List Value} (h : w.ownsRow base E k v n cs) (hb : Below w.heap.size w w') : w'.ownsRow base E k v n cs :=
  ownsRow_below h hb fun g hg => (h.lt g hg).2
theorem ownsK_far {w : World} {base k n : Nat} {E : TypeId} {v : Value} {cs : List Value} {p : Addr} {u : Value} (h : w.ownsRow base E k v n cs) (hne : v.ownBlock ≠ some p.block) : (w.setCell p u).ownsRow base E k v n cs := by
  obtain ⟨h1, h2⟩ := h
  refine ⟨h1, ?_⟩
  rcases h2 with h2 | ⟨g, cap, cur, hv, hgb, hh, r⟩
  · exact Or.inl h2
  · exact Or.inr ⟨g, cap, cur, hv, hgb, by rw [Below.heap_setCell _ _ _ _ (fun e => hne (by rw [hv, ← e]; rfl))]; exact hh, r⟩
theorem ownsK_le {w : World} {base base' k n : Nat} {E : TypeId} {v : Value} {cs : List Value} (h : w.ownsRow base E k v n cs) (hb : base' ≤ base) : w.ownsRow base' E k v n cs :=
  ⟨h.1, h.2.elim Or.inl (fun ⟨g, cap, cur, hv, hg, r⟩ => Or.inr ⟨g, cap, cur, hv, Nat.le_trans hb hg, r⟩)⟩
theorem ownsK_empty (w : World) (T : TypeId) (k base : Nat) (hb : base ≤ w.heap.size) : (w.alloc (.cells #[] T)).ownsRow base T k (.slice (some ⟨w.heap.size, 0, none⟩) 0 0) 0 [] :=
  ⟨by simp, .inr ⟨w.heap.size, 0, #[], rfl, hb, Blk.new w T #[], Nat.le_refl _, by unfold maxLen; omega, by simp, by simp⟩⟩
/-- 'append(s, x)', one element of some cells. -/
theorem append_k_at {P : Program} {w : World} {ops : Array Oper} {rest : List Oper} {o : Oper} {a : Act} {Q : Exit → Act → World → Prop} (hgd : o.guard = none) (s x : Operand) (T E : TypeId) (z : Value) (size bytes : Nat)
    (ho : o.op = .call { callee := .builtin .append, args := #[s, x], argTypes := #[T, T] }) (ht : P.underlying T = some (.slice E))
    (hinfo : (P.info? E).map (fun i => (i.zero, i.size, i.bytes)) = some (some z, size, bytes)) (hz : z.cells.size = size) (hsz : 0 < size) (hby : bytes ≤ 100)
    (base : Nat) (v : Value) (n : Nat) (cs : List Value) (hs : a.eval s = v) (hown : w.ownsRow base E size v n cs) (g : Nat) (us : Array Value) (hx : a.eval x = .slice (some ⟨g, 0, none⟩) 1 1) (hb : Blk w g E us) (hus : us.size = size) (h1 : ∀ u ∈ us.toList, u.oneCell' = true)
    (hlen : n ≤ 1000000000) (hbase : base ≤ w.heap.size)
    (h : ∀ A c w', w'.ownsRow base E size (.slice A (n + 1) c) (n + 1) (cs ++ us.toList) → Below base w w' → w.grownBy w' v.ownBlock → ((Value.slice A (n + 1) c).ownBlock = v.ownBlock ∨ (Value.slice A (n + 1) c).ownBlock = some w.heap.size) → wpList P ops Q rest (a.put o.dst (.slice A (n + 1) c)) w') :
    wpList P ops Q (o :: rest) a w := by
  refine wpList_plain hgd fun K hK => ?_
  obtain ⟨i0, hi, hz0, hz1, hz2⟩ := info_parts hinfo
  have hbt : (n + 1) * bytes ≤ 140737488355328 := by
    have : (n + 1) * bytes ≤ (n + 1) * 100 := Nat.mul_le_mul_left _ hby
    omega
  obtain ⟨v', w', hr, h2, h3, h4, h5⟩ := run_append_own_at (P := P) (w := w) base T o.type E i0 z size bytes ht hi hz0 hz1 hz2 hz hsz v n cs hown ⟨g, 0, none⟩ 1 1 us.toList (by simpa using hus) (fun j u hj => by rw [add_none, Nat.zero_add, hb.cell]; simpa using hj) h1 (by unfold maxLen; omega) hbt hbase
  obtain ⟨A, c, rfl⟩ := ownsK_form h2
  have hk := hK _ _ (h A c w' h2 ((Below.refl _ _).grown h3 hbase fun k hk => (hown.lt k hk).1) h3 h5)
  unfold Oper.wp
  simp [execOp, ho, resolve, invoke, builtin, hs, hx, hr, Result.andThen]
  exact hk
end Go.Proofs.YtdjchjmmpjofcaaDoor
