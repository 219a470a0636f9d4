/- append, with the place of the new row. Conditions: none. -/
import Derived.Test.YtdjchjmmpjofcaaDoorMem
import Derived.Maps.AppendAt
namespace Go.Proofs.YtdjchjmmpjofcaaDoor
open Go.RowKit
set_option linter.unusedVariables false

/-- 'append(s, x...)', x nil, empty or not; the new row lies where the old one lay, or in the next block. -/
theorem wp_append_at {P : Program} {w : World} {o : Oper} {a : Act} {K : Act → World → Prop} {Q : Exit → Act → World → Prop} (s x : Operand) (T E : TypeId) (z : Value) (bytes : Nat)
    (ho : o.op = .call { callee := .builtin .append, args := #[s, x], argTypes := #[T, T] }) (ht : P.underlying T = some (.slice E))
    (hinfo : (P.info? E).map (fun i => (i.zero, i.size, i.bytes)) = some (some z, 1, bytes)) (hz : z.cells.size = 1) (hby : bytes ≤ 100)
    (base : Nat) (v : Value) (cs : List Value) (hs : a.eval s = v) (hown : Own w base E v cs) (B : Nat) (A : Option Addr) (m c : Nat) (ds : List Value) (hx : a.eval x = .slice A m c) (hm : m = ds.length) (hd : Rd w B A c ds) (h1 : ∀ u ∈ ds, u.oneCell' = true)
    (hlen : cs.length + ds.length ≤ 1000000000) (hbase : base ≤ w.heap.size)
    (h : ∀ A c w', Own w' base E (.slice A (cs.length + ds.length) c) (cs ++ ds) → Below base w w' → w.grownBy w' v.ownBlock → ((Value.slice A (cs.length + ds.length) c).ownBlock = v.ownBlock ∨ (Value.slice A (cs.length + ds.length) c).ownBlock = some w.heap.size) → K (a.put o.dst (.slice A (cs.length + ds.length) c)) w') :
    o.wp P a w K Q := by
  obtain ⟨i0, hi, hz0, hz1, hz2⟩ := info_parts hinfo
  have hbl : ∀ {w' : World}, w.grownBy w' v.ownBlock → Below base w w' := fun hg => (Below.refl _ _).grown hg hbase fun k hk => (hown.lt k hk).1
  subst hm
  cases A with
  | none =>
    have hc : c = 0 := hd.2.2.1 rfl
    subst hc
    have hds : ds = [] := List.eq_nil_of_length_eq_zero (by have := hd.1; omega)
    subst hds
    obtain ⟨Av, cv, rfl⟩ := hown.form
    have hrun := run_append_owned_none (P := P) w base T o.type E i0 1 ht hi _ _ _ hown
    have hg : w.grownBy w (Value.slice Av cs.length cv).ownBlock := ⟨rfl, rfl, rfl, Nat.le_refl _, fun _ _ _ => rfl⟩
    have hk := h Av cv w (by simpa using hown) (Below.refl _ _) hg (.inl (by cases Av <;> rfl))
    unfold Oper.wp
    simp only [List.length_nil, Nat.add_zero] at hk hx ⊢
    simp [execOp, ho, resolve, invoke, builtin, hs, hx, hrun, Result.andThen]
    exact hk
  | some ad =>
    have hcell : ∀ j u, ds[j]? = some u → w.cell? (ad.add j) = some u := by
      intro j u hj
      have hjl : j < ds.length := by
        rcases Nat.lt_or_ge j ds.length with h' | h'
        · exact h'
        · rw [List.getElem?_eq_none h'] at hj; cases hj
      obtain ⟨b, o', hA, hb, hc⟩ := hd.2.2.2 j hjl
      injection hA with hA
      subst hA
      rw [add_none]
      exact hc j u hj
    have hbt : (cs.length + ds.length) * bytes ≤ 140737488355328 := by
      have : (cs.length + ds.length) * bytes ≤ (cs.length + ds.length) * 100 := Nat.mul_le_mul_left _ hby
      omega
    obtain ⟨v', w', hr, h2, h3, h4, h5⟩ := run_append_own_at (P := P) (w := w) base T o.type E i0 z 1 bytes ht hi hz0 hz1 hz2 hz (by omega) v cs.length cs hown ad ds.length c ds (by simp) hcell h1 (by unfold maxLen; omega) hbt hbase
    have h6 : Own w' base E v' (cs ++ ds) := by unfold Own; rw [List.length_append]; exact h2
    obtain ⟨A, cc, rfl⟩ := h6.form
    rw [List.length_append] at h6 h5 hr
    have hk := h A cc w' h6 (hbl h3) h3 h5
    unfold Oper.wp
    simp [execOp, ho, resolve, invoke, builtin, hs, hx, hr, Result.andThen]
    exact hk
/-- 'append(s, x)' at integers, with the place of the new row. -/
theorem append_int_at {w : World} {ops : Array Oper} {rest : List Oper} {o : Oper} {a : Act} {Q : Exit → Act → World → Prop} (hgd : o.guard = none) (s x : Operand)
    (ho : o.op = .call { callee := .builtin .append, args := #[s, x], argTypes := #[37, 37] })
    (base : Nat) (v : Value) (xs : List Int) (hs : a.eval s = v) (hown : OwnI w base v xs) (g : Nat) (u : Int) (hx : a.eval x = .slice (some ⟨g, 0, none⟩) 1 1) (hc : Blk w g 3 #[.int .i64 u])
    (hlen : xs.length ≤ 900000000) (hbase : base ≤ w.heap.size)
    (h : ∀ A c w', OwnI w' base (.slice A (xs.length + 1) c) (xs ++ [u]) → Below base w w' → w.grownBy w' v.ownBlock → ((Value.slice A (xs.length + 1) c).ownBlock = v.ownBlock ∨ (Value.slice A (xs.length + 1) c).ownBlock = some w.heap.size) → wpList Tryd.prog ops Q rest (a.put o.dst (.slice A (xs.length + 1) c)) w') :
    wpList Tryd.prog ops Q (o :: rest) a w := by
  refine wpList_plain hgd fun K hK => ?_
  refine wp_append_at s x 37 3 (.int .i64 0) 8 ho Tryd.underlying37 infoInt rfl (by omega) base v (ints xs) hs (own_ints.1 hown) (g + 1) (some ⟨g, 0, none⟩) 1 1 [.int .i64 u] hx rfl (Rd.of_blk hc (Nat.lt_succ_self _)) (fun u hu => by simp at hu; subst hu; rfl) (by rw [ints_len]; simp; omega) hbase ?_
  intro A c w' h1 h2 h3 h4
  rw [ints_len, List.length_singleton] at h1 h4 ⊢
  refine hK _ _ (h A c w' (own_ints.2 ?_) h2 h3 h4)
  rw [ints_snoc]; exact h1
/-- 'append(s, x...)', with the place of the new row. -/
theorem wpList_append_at {P : Program} {w : World} {ops : Array Oper} {rest : List Oper} {o : Oper} {a : Act} {Q : Exit → Act → World → Prop} (hgd : o.guard = none) (s x : Operand) (T E : TypeId) (z : Value) (bytes : Nat)
    (ho : o.op = .call { callee := .builtin .append, args := #[s, x], argTypes := #[T, T] }) (ht : P.underlying T = some (.slice E))
    (hinfo : (P.info? E).map (fun i => (i.zero, i.size, i.bytes)) = some (some z, 1, bytes)) (hz : z.cells.size = 1) (hby : bytes ≤ 100)
    (base : Nat) (v : Value) (cs : List Value) (hs : a.eval s = v) (hown : Own w base E v cs) (B : Nat) (A : Option Addr) (m c : Nat) (ds : List Value) (hx : a.eval x = .slice A m c) (hm : m = ds.length) (hd : Rd w B A c ds) (h1 : ∀ u ∈ ds, u.oneCell' = true)
    (hlen : cs.length + ds.length ≤ 1000000000) (hbase : base ≤ w.heap.size)
    (h : ∀ A c w', Own w' base E (.slice A (cs.length + ds.length) c) (cs ++ ds) → Below base w w' → w.grownBy w' v.ownBlock → ((Value.slice A (cs.length + ds.length) c).ownBlock = v.ownBlock ∨ (Value.slice A (cs.length + ds.length) c).ownBlock = some w.heap.size) → wpList P ops Q rest (a.put o.dst (.slice A (cs.length + ds.length) c)) w') :
    wpList P ops Q (o :: rest) a w :=
  wpList_plain hgd fun _ hK => wp_append_at s x T E z bytes ho ht hinfo hz hby base v cs hs hown B A m c ds hx hm hd h1 hlen hbase fun A c w' k1 k2 k3 k4 => hK _ _ (h A c w' k1 k2 k3 k4)
end Go.Proofs.YtdjchjmmpjofcaaDoor
