/- Laws of make and append at this program's element types, in short form. Conditions: none. -/
import Derived.Test.YtdjchjmmpjofcaaDoorLib
import Derived.Test.YtdjchjmmpjofcaaDoorProg
import Derived.ProofKit
import Derived.OwnWalk
namespace Go.Proofs.YtdjchjmmpjofcaaDoor
open Go.RowKit
set_option linter.unusedVariables false

theorem infoInt : (Tryd.prog.info? 3).map (fun i => (i.zero, i.size, i.bytes)) = some (some (.int .i64 0), 1, 8) := by kernel_rfl

theorem below_of_grown {w w' : World} (h : w.grownBy w' none) : Below w.heap.size w w' := ⟨h.os, h.tape, h.output, h.size, fun k hk => h.block k hk (by simp)⟩

theorem make_ints {w : World} {ops : Array Oper} {rest : List Oper} {o : Oper} {a : Act} {Q : Exit → Act → World → Prop} (hg : o.guard = none) (l c : Operand)
    (hop : o.op = Op.makeSlice 37 l c) (n : Nat) (hl : a.eval l = .int .i64 n) (hc : a.eval c = .int .i64 n) (hb : n ≤ 1000000000000)
    (hK : ∀ w', OwnI w' w.heap.size (.slice (some ⟨w.heap.size, 0, none⟩) n n) (List.replicate n 0) → Below w.heap.size w w' → w.heap.size < w'.heap.size →
      wpList Tryd.prog ops Q rest (a.put o.dst (.slice (some ⟨w.heap.size, 0, none⟩) n n)) w') :
    wpList Tryd.prog ops Q (o :: rest) a w := by
  obtain ⟨i0, hi, hz0, hz1, hz2⟩ := info_parts infoInt
  refine wpList_make_full w hg l c 37 hop w.heap.size 3 i0 (.int .i64 0) 1 Tryd.underlying37 hi hz0 hz1 .i64 .i64 n n n hl hc rfl rfl (by rw [hz2]; omega) (by unfold maxLen; omega) (Nat.le_refl _) ?_
  intro w' ho hgr
  have e : (madeCells (Value.int .i64 0).cells (n * 1)).toList = ints (List.replicate n 0) := by
    simp [madeCells, ints, Value.cells, Nat.mod_one, List.map_const']
  rw [e] at ho
  refine hK w' (by unfold OwnI; rw [List.length_replicate]; exact ho) (below_of_grown hgr) ((ho.lt _ rfl).2)

/-- A new slice of one-cell elements of type E, of the call's own from block base on. -/
def Own (w : World) (base : Nat) (E : TypeId) (v : Value) (cs : List Value) : Prop := w.ownsRow base E 1 v cs.length cs
theorem Own.form {w : World} {base : Nat} {E : TypeId} {v : Value} {cs : List Value} (h : Own w base E v cs) : ∃ A c, v = .slice A cs.length c := by
  rcases h.2 with ⟨hv, h0⟩ | ⟨g, cap, cur, hv, _⟩
  · exact ⟨none, 0, by rw [hv, h0]⟩
  · exact ⟨_, _, hv⟩
theorem Own.at {w : World} {base : Nat} {E : TypeId} {A : Option Addr} {n c : Nat} {cs : List Value} (h : Own w base E (.slice A n c) cs) (hn : 0 < cs.length) :
    ∃ g, A = some ⟨g, 0, none⟩ ∧ n = cs.length ∧ base ≤ g ∧ g < w.heap.size ∧ (∀ i u, cs[i]? = some u → w.cell? ⟨g, i, none⟩ = some u) ∧ ∀ i, w.frozen? ⟨g, i, none⟩ = false := by
  rcases h.2 with ⟨hv, h0⟩ | ⟨g, cap, cur, hv, hb, _⟩
  · omega
  · injection hv with hA hn' hc
    subst hA hn' hc
    have hlt := h.lt g rfl
    refine ⟨g, rfl, rfl, hb, hlt.2, fun i u hi => ?_, fun i => World.ownsRow.frozenAt h i⟩
    have := World.ownsRow.cellAt h i (by
      rcases Nat.lt_or_ge i cs.length with h' | h'
      · omega
      · rw [List.getElem?_eq_none h'] at hi; cases hi)
    rw [this, hi]
theorem Own.below {w w' : World} {base : Nat} {E : TypeId} {v : Value} {cs : List Value} (h : Own w base E v cs) (hb : Below w.heap.size w w') : Own w' base E v cs :=
  ownsRow_below h hb fun g hg => (h.lt g hg).2
theorem Own.le {w : World} {base base' : Nat} {E : TypeId} {v : Value} {cs : List Value} (h : Own w base E v cs) (hb : base' ≤ base) : Own w base' E v cs :=
  ⟨h.1, h.2.elim Or.inl (fun ⟨g, cap, cur, hv, hg, r⟩ => Or.inr ⟨g, cap, cur, hv, Nat.le_trans hb hg, r⟩)⟩
theorem Own.rd {w : World} {base : Nat} {E : TypeId} {A : Option Addr} {n c : Nat} {cs : List Value} (h : Own w base E (.slice A n c) cs) : Rd w w.heap.size A c cs := by
  obtain ⟨A', c', hv⟩ := h.form
  injection hv with hA hn hc
  subst hA hn hc
  exact Rd.of_own h
theorem Own.len {w : World} {base : Nat} {E : TypeId} {A : Option Addr} {n c : Nat} {cs : List Value} (h : Own w base E (.slice A n c) cs) : n = cs.length := by
  obtain ⟨A', c', hv⟩ := h.form
  injection hv
theorem Own.empty (w : World) (E T : TypeId) (base : Nat) (hb : base ≤ w.heap.size) : Own (w.alloc (.cells #[] T)) base T (.slice (some ⟨w.heap.size, 0, none⟩) 0 0) [] :=
  World.ownsRow_lit w #[] 0 hb (by unfold maxLen; omega) rfl
/-- A block of the call's own, other than the row's, that is kept by an append. -/
theorem Blk.grown {w w' : World} {g : Nat} {t : TypeId} {cs : Array Value} {row : Option Nat} (h : Blk w g t cs) (hb : w.grownBy w' row) (hg : some g ≠ row) : Blk w' g t cs := (hb.block g h.lt hg).trans h
theorem Own.grown {w w' : World} {base : Nat} {E : TypeId} {v : Value} {cs : List Value} {row : Option Nat} (h : Own w base E v cs) (hg : w.grownBy w' row) (hne : v.ownBlock = none ∨ v.ownBlock ≠ row) : Own w' base E v cs :=
  World.ownsRow.kept h hg hne
theorem Own.far {w : World} {base : Nat} {E : TypeId} {v : Value} {cs : List Value} (h : Own w base E v cs) (p : Addr) (u : Value) (hne : v.ownBlock ≠ some p.block) : Own (w.setCell p u) base E v cs := by
  obtain ⟨h1, h2⟩ := h
  refine ⟨h1, ?_⟩
  rcases h2 with h2 | ⟨g, cap, cur, hv, hgb, hh, r⟩
  · exact Or.inl h2
  · exact Or.inr ⟨g, cap, cur, hv, hgb, by rw [Below.heap_setCell _ _ _ _ (fun e => hne (by rw [hv, ← e]; rfl))]; exact hh, r⟩

/-- 'append(s, x)', one element of one cell. -/
theorem append_one {P : Program} {w : World} {ops : Array Oper} {rest : List Oper} {o : Oper} {a : Act} {Q : Exit → Act → World → Prop} (hgd : o.guard = none) (s x : Operand) (T E : TypeId) (z : Value) (bytes : Nat)
    (ho : o.op = .call { callee := .builtin .append, args := #[s, x], argTypes := #[T, T] }) (ht : P.underlying T = some (.slice E))
    (hinfo : (P.info? E).map (fun i => (i.zero, i.size, i.bytes)) = some (some z, 1, bytes)) (hz : z.cells.size = 1) (hby : bytes ≤ 100)
    (base : Nat) (v : Value) (cs : List Value) (hs : a.eval s = v) (hown : Own w base E v cs) (g : Nat) (u : Value) (hx : a.eval x = .slice (some ⟨g, 0, none⟩) 1 1) (hc : w.cell? ⟨g, 0, none⟩ = some u) (h1 : u.oneCell' = true)
    (hlen : cs.length ≤ 1000000000) (hbase : base ≤ w.heap.size)
    (h : ∀ A c w', Own w' base E (.slice A (cs.length + 1) c) (cs ++ [u]) → Below base w w' → w.grownBy w' v.ownBlock → wpList P ops Q rest (a.put o.dst (.slice A (cs.length + 1) c)) w') :
    wpList P ops Q (o :: rest) a w := by
  obtain ⟨i0, hi, hz0, hz1, hz2⟩ := info_parts hinfo
  refine wpList_append_own w hgd s x T ho base E i0 z 1 bytes ht hi hz0 hz1 hz2 hz (by omega) v cs.length cs hs hown ⟨g, 0, none⟩ 1 1 [u] hx rfl ?_ ?_ (by unfold maxLen; omega) ?_ hbase ?_
  · intro j u' hj
    cases j with
    | zero => simp at hj; subst hj; exact hc
    | succ j => simp at hj
  · intro u' hu; simp at hu; subst hu; exact h1
  · have : (cs.length + 1) * bytes ≤ (cs.length + 1) * 100 := Nat.mul_le_mul_left _ hby
    omega
  · intro v' w' h2 h3 h4
    have h5 : Own w' base E v' (cs ++ [u]) := by unfold Own; rw [List.length_append]; exact h2
    obtain ⟨A, c, rfl⟩ := h5.form
    rw [List.length_append, List.length_singleton] at h5 ⊢
    refine h A c w' h5 ?_ h3
    refine (Below.refl _ _).grown h3 hbase fun k hk => (hown.lt k hk).1
theorem own_ints {w : World} {base : Nat} {v : Value} {xs : List Int} : OwnI w base v xs ↔ Own w base 3 v (ints xs) := by
  unfold OwnI Own; rw [ints_len]
theorem ints_snoc (xs : List Int) (u : Int) : ints (xs ++ [u]) = ints xs ++ [.int .i64 u] := by simp [ints]
/-- 'append(s, x)' at integers. -/
theorem append_int {w : World} {ops : Array Oper} {rest : List Oper} {o : Oper} {a : Act} {Q : Exit → Act → World → Prop} (hgd : o.guard = none) (s x : Operand)
    (ho : o.op = .call { callee := .builtin .append, args := #[s, x], argTypes := #[37, 37] })
    (base : Nat) (v : Value) (xs : List Int) (hs : a.eval s = v) (hown : OwnI w base v xs) (g : Nat) (u : Int) (hx : a.eval x = .slice (some ⟨g, 0, none⟩) 1 1) (hc : w.cell? ⟨g, 0, none⟩ = some (.int .i64 u))
    (hlen : xs.length ≤ 1000000000) (hbase : base ≤ w.heap.size)
    (h : ∀ A c w', OwnI w' base (.slice A (xs.length + 1) c) (xs ++ [u]) → Below base w w' → w.grownBy w' v.ownBlock → wpList Tryd.prog ops Q rest (a.put o.dst (.slice A (xs.length + 1) c)) w') :
    wpList Tryd.prog ops Q (o :: rest) a w := by
  refine append_one hgd s x 37 3 (.int .i64 0) 8 ho Tryd.underlying37 infoInt rfl (by omega) base v (ints xs) hs (own_ints.1 hown) g _ hx hc rfl (by rw [ints_len]; exact hlen) hbase ?_
  intro A c w' h1 h2 h3
  rw [ints_len] at h1 ⊢
  refine h A c w' (own_ints.2 ?_) h2 h3
  rw [ints_snoc]; exact h1

theorem Blk.new_at (w : World) (t : TypeId) (cs : Array Value) {g : Nat} (h : g = w.heap.size) : Blk (w.alloc (.cells cs t)) g t cs := h ▸ Blk.new w t cs
theorem Own.of_blk {w : World} {base g : Nat} {E : TypeId} (h : Blk w g E #[]) (hb : base ≤ g) : Own w base E (.slice (some ⟨g, 0, none⟩) 0 0) [] :=
  ⟨rfl, .inr ⟨g, 0, #[], rfl, hb, h, Nat.le_refl _, by unfold maxLen; omega, rfl, rfl⟩⟩
theorem Rd.of_blk {w : World} {g : Nat} {E : TypeId} {u : Value} (h : Blk w g E #[u]) {B : Nat} (hB : g < B) : Rd w B (some ⟨g, 0, none⟩) 1 [u] := by
  refine ⟨by simp, by unfold maxLen; omega, fun h => by simp at h, fun j hj => ⟨g, 0, rfl, hB, fun i v hi => ?_⟩⟩
  cases i with
  | zero => simp at hi; subst hi; rw [h.cell]; rfl
  | succ i => simp at hi
/-- 'append(s, x...)', x nil, empty or not. -/
theorem wp_append_rd {P : Program} {w : World} {o : Oper} {a : Act} {K : Act → World → Prop} {Q : Exit → Act → World → Prop} (s x : Operand) (T E : TypeId) (z : Value) (bytes : Nat)
    (ho : o.op = .call { callee := .builtin .append, args := #[s, x], argTypes := #[T, T] }) (ht : P.underlying T = some (.slice E))
    (hinfo : (P.info? E).map (fun i => (i.zero, i.size, i.bytes)) = some (some z, 1, bytes)) (hz : z.cells.size = 1) (hby : bytes ≤ 100)
    (base : Nat) (v : Value) (cs : List Value) (hs : a.eval s = v) (hown : Own w base E v cs) (B : Nat) (A : Option Addr) (m c : Nat) (ds : List Value) (hx : a.eval x = .slice A m c) (hm : m = ds.length) (hd : Rd w B A c ds) (h1 : ∀ u ∈ ds, u.oneCell' = true)
    (hlen : cs.length + ds.length ≤ 1000000000) (hbase : base ≤ w.heap.size)
    (h : ∀ A c w', Own w' base E (.slice A (cs.length + ds.length) c) (cs ++ ds) → Below base w w' → w.grownBy w' v.ownBlock → K (a.put o.dst (.slice A (cs.length + ds.length) c)) w') :
    o.wp P a w K Q := by
  obtain ⟨i0, hi, hz0, hz1, hz2⟩ := info_parts hinfo
  have hbl : ∀ {w' : World}, w.grownBy w' v.ownBlock → Below base w w' := fun hg => (Below.refl _ _).grown hg hbase fun k hk => (hown.lt k hk).1
  subst hm
  cases A with
  | none =>
    have hc : c = 0 := hd.2.2.1 rfl
    subst hc
    have hds : ds = [] := List.eq_nil_of_length_eq_zero (by have := hd.1; omega)
    subst hds
    obtain ⟨Av, cv, rfl⟩ := hown.form
    have hrun := run_append_owned_none (P := P) w base T o.type E i0 1 ht hi _ _ _ hown
    have hg : w.grownBy w (Value.slice Av cs.length cv).ownBlock := ⟨rfl, rfl, rfl, Nat.le_refl _, fun _ _ _ => rfl⟩
    have hk := h Av cv w (by simpa using hown) (Below.refl _ _) hg
    unfold Oper.wp
    simp only [List.length_nil, Nat.add_zero] at hk hx ⊢
    simp [execOp, ho, resolve, invoke, builtin, hs, hx, hrun, Result.andThen]
    exact hk
  | some ad =>
    refine wp_append_own w s x T ho base E i0 z 1 bytes ht hi hz0 hz1 hz2 hz (by omega) v cs.length cs hs hown ad ds.length c ds hx (by simp) ?_ h1 (by unfold maxLen; omega) ?_ hbase ?_
    · intro j u hj
      have hjl : j < ds.length := by
        rcases Nat.lt_or_ge j ds.length with h' | h'
        · exact h'
        · rw [List.getElem?_eq_none h'] at hj; cases hj
      obtain ⟨b, o', hA, hb, hc⟩ := hd.2.2.2 j hjl
      injection hA with hA
      subst hA
      rw [add_none]
      exact hc j u hj
    · have : (cs.length + ds.length) * bytes ≤ (cs.length + ds.length) * 100 := Nat.mul_le_mul_left _ hby
      omega
    · intro v' w' h2 h3 h4
      have h5 : Own w' base E v' (cs ++ ds) := by unfold Own; rw [List.length_append]; exact h2
      obtain ⟨A, c, rfl⟩ := h5.form
      rw [List.length_append] at h5 ⊢
      exact h A c w' h5 (hbl h3) h3
theorem wpList_append_rd {P : Program} {w : World} {ops : Array Oper} {rest : List Oper} {o : Oper} {a : Act} {Q : Exit → Act → World → Prop} (hgd : o.guard = none) (s x : Operand) (T E : TypeId) (z : Value) (bytes : Nat)
    (ho : o.op = .call { callee := .builtin .append, args := #[s, x], argTypes := #[T, T] }) (ht : P.underlying T = some (.slice E))
    (hinfo : (P.info? E).map (fun i => (i.zero, i.size, i.bytes)) = some (some z, 1, bytes)) (hz : z.cells.size = 1) (hby : bytes ≤ 100)
    (base : Nat) (v : Value) (cs : List Value) (hs : a.eval s = v) (hown : Own w base E v cs) (B : Nat) (A : Option Addr) (m c : Nat) (ds : List Value) (hx : a.eval x = .slice A m c) (hm : m = ds.length) (hd : Rd w B A c ds) (h1 : ∀ u ∈ ds, u.oneCell' = true)
    (hlen : cs.length + ds.length ≤ 1000000000) (hbase : base ≤ w.heap.size)
    (h : ∀ A c w', Own w' base E (.slice A (cs.length + ds.length) c) (cs ++ ds) → Below base w w' → w.grownBy w' v.ownBlock → wpList P ops Q rest (a.put o.dst (.slice A (cs.length + ds.length) c)) w') :
    wpList P ops Q (o :: rest) a w :=
  wpList_plain hgd fun _ hK => wp_append_rd s x T E z bytes ho ht hinfo hz hby base v cs hs hown B A m c ds hx hm hd h1 hlen hbase fun A c w' k1 k2 k3 => hK _ _ (h A c w' k1 k2 k3)
theorem step_append_rd {P : Program} {w : World} {ops : Array Oper} {o : Oper} {a : Act} {K : Act → World → Prop} {Q : Exit → Act → World → Prop} {F : Prop} (hgd : o.guard = none) (s x : Operand) (T E : TypeId) (z : Value) (bytes : Nat)
    (ho : o.op = .call { callee := .builtin .append, args := #[s, x], argTypes := #[T, T] }) (ht : P.underlying T = some (.slice E))
    (hinfo : (P.info? E).map (fun i => (i.zero, i.size, i.bytes)) = some (some z, 1, bytes)) (hz : z.cells.size = 1) (hby : bytes ≤ 100)
    (base : Nat) (v : Value) (cs : List Value) (hs : a.eval s = v) (hown : Own w base E v cs) (B : Nat) (A : Option Addr) (m c : Nat) (ds : List Value) (hx : a.eval x = .slice A m c) (hm : m = ds.length) (hd : Rd w B A c ds) (h1 : ∀ u ∈ ds, u.oneCell' = true)
    (hlen : cs.length + ds.length ≤ 1000000000) (hbase : base ≤ w.heap.size)
    (h : ∀ A c w', Own w' base E (.slice A (cs.length + ds.length) c) (cs ++ ds) → Below base w w' → w.grownBy w' v.ownBlock → K (a.put o.dst (.slice A (cs.length + ds.length) c)) w') :
    if Region.wanted o (yielded ops a.tmps) = true then Oper.wp P o a w K Q else F := by
  rw [if_pos (show Region.wanted o (yielded ops a.tmps) = true by simp [Region.wanted, hgd])]
  exact wp_append_rd s x T E z bytes ho ht hinfo hz hby base v cs hs hown B A m c ds hx hm hd h1 hlen hbase h
end Go.Proofs.YtdjchjmmpjofcaaDoor
