/- The pool of games: its appends, for the walk. Conditions: none. -/
import Derived.Test.YtdjchjmmpjofcaaDoorPl1
namespace Go.Proofs.YtdjchjmmpjofcaaDoor
open Go.RowKit Go.Maps
set_option linter.unusedVariables false

theorem infoRow : (Tryd.prog.info? 37).map (fun i => (i.zero, i.size, i.bytes)) = some (some (.slice none 0 0), 1, 24) := by kernel_rfl

theorem pool_appendL {w : World} {ops : Array Oper} {rest : List Oper} {o : Oper} {a : Act} {Q : Exit → Act → World → Prop} (hgd : o.guard = none) (s x : Operand)
    (ho : o.op = .call { callee := .builtin .append, args := #[s, x], argTypes := #[45, 45] })
    (lo p mf kL kR kB kF : Nat) (vL vR vB : Value) (us vs : List Value) (h : PoolG w lo p mf kL kR kB kF vL vR vB us vs) (hlo : lo ≤ w.heap.size) (hs : a.eval s = vL) (u : Value) (hu1 : u.oneCell' = true) (hu : Own w lo 3 u (ints (rng kL))) (huf : Fre u vB) (g : Nat) (hg0 : g = w.heap.size) (hx : a.eval x = .slice (some ⟨g, 0, none⟩) 1 1) (hk : kL ≤ 1000)
    (hK : ∀ A c w7, PoolG (w7.setCell ⟨p, 0, none⟩ (.slice A (kL + 1) c)) lo p mf (kL + 1) kR kB kF (.slice A (kL + 1) c) vR vB (us ++ [u]) vs → (∀ v xs, Own w lo 3 v xs →  Own (w7.setCell ⟨p, 0, none⟩ (.slice A (kL + 1) c)) lo 3 v xs) → Below lo w (w7.setCell ⟨p, 0, none⟩ (.slice A (kL + 1) c)) →
      w7.cell? ⟨p, 0, none⟩ = some vL → w7.cell? ⟨p, 1, none⟩ = some vR → w7.cell? ⟨p, 2, none⟩ = some vB → w7.frozen? ⟨p, 0, none⟩ = false → wpList Tryd.prog ops Q rest (a.put o.dst (.slice A (kL + 1) c)) w7) :
    wpList Tryd.prog ops Q (o :: rest) a (w.alloc (.cells #[u] 37)) := by
  subst hg0
  have hb1 := bel1 w (.cells #[u] 37)
  have hz : (w.alloc (.cells #[u] 37)).heap.size = w.heap.size + 1 := by simp
  have hl := h.ul
  refine wpList_append_at hgd s x 45 37 (.slice none 0 0) 24 ho Tryd.underlying45 infoRow rfl (by omega) lo vL us hs (h.L.below hb1) (w.heap.size + 1) (some ⟨w.heap.size, 0, none⟩) 1 1 [u] hx rfl (Rd.of_blk (Blk.new _ _ _) (Nat.lt_succ_self _)) (fun u' hu' => by simp at hu'; subst hu'; exact hu1) (by rw [hl]; simp; omega) (by omega) ?_
  intro A c w7 ho7 hb7 hg7 hp7
  have e : us.length + ([u] : List Value).length = kL + 1 := by rw [hl]; rfl
  rw [e] at ho7 hp7 ⊢
  skip
  have hs7 := PoolG.pushL (w := w) (w1 := w.alloc (.cells #[u] 37)) (w2 := w7) (u := u) (v' := .slice A (kL + 1) c) h hlo hu huf hb1 ho7 hg7 hp7
  obtain ⟨m1, m2, m3, m4, hblk⟩ := h.blk
  have hbk7 : Blk w7 p 47 #[vL, vR, vB, .map (some mf), m1, m2, m3, m4] := (hblk.alloc (.cells #[u] 37)).grown hg7 (fun e => neBlk (h.L.below hb1) (hblk.alloc _) neRP e.symm)
  exact hK A c w7 hs7.1 hs7.2.1 hs7.2.2 (hbk7.cell 0) (hbk7.cell 1) (hbk7.cell 2) (hbk7.frozen 0)

theorem pool_appendR {w : World} {ops : Array Oper} {rest : List Oper} {o : Oper} {a : Act} {Q : Exit → Act → World → Prop} (hgd : o.guard = none) (s x : Operand)
    (ho : o.op = .call { callee := .builtin .append, args := #[s, x], argTypes := #[45, 45] })
    (lo p mf kL kR kB kF : Nat) (vL vR vB : Value) (us vs : List Value) (h : PoolG w lo p mf kL kR kB kF vL vR vB us vs) (hlo : lo ≤ w.heap.size) (hs : a.eval s = vR) (u : Value) (hu1 : u.oneCell' = true) (hu : Own w lo 3 u (ints (rng kR))) (huf : Fre u vB) (g : Nat) (hg0 : g = w.heap.size) (hx : a.eval x = .slice (some ⟨g, 0, none⟩) 1 1) (hk : kR ≤ 1000)
    (hK : ∀ A c w7, PoolG (w7.setCell ⟨p, 1, none⟩ (.slice A (kR + 1) c)) lo p mf kL (kR + 1) kB kF vL (.slice A (kR + 1) c) vB us (vs ++ [u]) → (∀ v xs, Own w lo 3 v xs →  Own (w7.setCell ⟨p, 1, none⟩ (.slice A (kR + 1) c)) lo 3 v xs) → Below lo w (w7.setCell ⟨p, 1, none⟩ (.slice A (kR + 1) c)) →
      w7.cell? ⟨p, 0, none⟩ = some vL → w7.cell? ⟨p, 1, none⟩ = some vR → w7.cell? ⟨p, 2, none⟩ = some vB → w7.frozen? ⟨p, 1, none⟩ = false → wpList Tryd.prog ops Q rest (a.put o.dst (.slice A (kR + 1) c)) w7) :
    wpList Tryd.prog ops Q (o :: rest) a (w.alloc (.cells #[u] 37)) := by
  subst hg0
  have hb1 := bel1 w (.cells #[u] 37)
  have hz : (w.alloc (.cells #[u] 37)).heap.size = w.heap.size + 1 := by simp
  have hl := h.vl
  refine wpList_append_at hgd s x 45 37 (.slice none 0 0) 24 ho Tryd.underlying45 infoRow rfl (by omega) lo vR vs hs (h.R.below hb1) (w.heap.size + 1) (some ⟨w.heap.size, 0, none⟩) 1 1 [u] hx rfl (Rd.of_blk (Blk.new _ _ _) (Nat.lt_succ_self _)) (fun u' hu' => by simp at hu'; subst hu'; exact hu1) (by rw [hl]; simp; omega) (by omega) ?_
  intro A c w7 ho7 hb7 hg7 hp7
  have e : vs.length + ([u] : List Value).length = kR + 1 := by rw [hl]; rfl
  rw [e] at ho7 hp7 ⊢
  skip
  have hs7 := PoolG.pushR (w := w) (w1 := w.alloc (.cells #[u] 37)) (w2 := w7) (u := u) (v' := .slice A (kR + 1) c) h hlo hu huf hb1 ho7 hg7 hp7
  obtain ⟨m1, m2, m3, m4, hblk⟩ := h.blk
  have hbk7 : Blk w7 p 47 #[vL, vR, vB, .map (some mf), m1, m2, m3, m4] := (hblk.alloc (.cells #[u] 37)).grown hg7 (fun e => neBlk (h.R.below hb1) (hblk.alloc _) neRP e.symm)
  exact hK A c w7 hs7.1 hs7.2.1 hs7.2.2 (hbk7.cell 0) (hbk7.cell 1) (hbk7.cell 2) (hbk7.frozen 1)

theorem pool_appendB {w : World} {ops : Array Oper} {rest : List Oper} {o : Oper} {a : Act} {Q : Exit → Act → World → Prop} (hgd : o.guard = none) (s x : Operand)
    (ho : o.op = .call { callee := .builtin .append, args := #[s, x], argTypes := #[37, 37] })
    (lo p mf kL kR kB kF : Nat) (vL vR vB : Value) (us vs : List Value) (h : PoolG w lo p mf kL kR kB kF vL vR vB us vs) (hlo : lo ≤ w.heap.size) (hs : a.eval s = vB)  (g : Nat) (hg0 : g = w.heap.size) (hx : a.eval x = .slice (some ⟨g, 0, none⟩) 1 1) (hk : kB ≤ 1000)
    (hK : ∀ A c w7, PoolG (w7.setCell ⟨p, 2, none⟩ (.slice A (kB + 1) c)) lo p mf kL kR (kB + 1) kF vL vR (.slice A (kB + 1) c) us vs → (∀ v xs, Own w lo 3 v xs → Fre v vB → Own (w7.setCell ⟨p, 2, none⟩ (.slice A (kB + 1) c)) lo 3 v xs ∧ Fre v (.slice A (kB + 1) c)) → Below lo w (w7.setCell ⟨p, 2, none⟩ (.slice A (kB + 1) c)) →
      w7.cell? ⟨p, 0, none⟩ = some vL → w7.cell? ⟨p, 1, none⟩ = some vR → w7.cell? ⟨p, 2, none⟩ = some vB → w7.frozen? ⟨p, 2, none⟩ = false → wpList Tryd.prog ops Q rest (a.put o.dst (.slice A (kB + 1) c)) w7) :
    wpList Tryd.prog ops Q (o :: rest) a (w.alloc (.cells #[.int .i64 (kB : Int)] 3)) := by
  subst hg0
  have hb1 := bel1 w (.cells #[.int .i64 (kB : Int)] 3)
  have hz : (w.alloc (.cells #[.int .i64 (kB : Int)] 3)).heap.size = w.heap.size + 1 := by simp
  have hl := (show (ints (rng kB)).length = kB by rw [ints_len, rng_len])
  refine wpList_append_at hgd s x 37 3 (.int .i64 0) 8 ho Tryd.underlying37 infoInt rfl (by omega) lo vB (ints (rng kB)) hs (h.B.below hb1) (w.heap.size + 1) (some ⟨w.heap.size, 0, none⟩) 1 1 [.int .i64 (kB : Int)] hx rfl (Rd.of_blk (Blk.new _ _ _) (Nat.lt_succ_self _)) (fun u hu => by simp at hu; subst hu; rfl) (by rw [hl]; simp; omega) (by omega) ?_
  intro A c w7 ho7 hb7 hg7 hp7
  have e : (ints (rng kB)).length + ([.int .i64 (kB : Int)] : List Value).length = kB + 1 := by rw [hl]; rfl
  rw [e] at ho7 hp7 ⊢
  rw [← ints_snoc, ← rng_succ] at ho7
  have hs7 := PoolG.pushB (w := w) (w1 := w.alloc (.cells #[.int .i64 (kB : Int)] 3)) (w2 := w7)  (v' := .slice A (kB + 1) c) h hlo  hb1 ho7 hg7 hp7
  obtain ⟨m1, m2, m3, m4, hblk⟩ := h.blk
  have hbk7 : Blk w7 p 47 #[vL, vR, vB, .map (some mf), m1, m2, m3, m4] := (hblk.alloc (.cells #[.int .i64 (kB : Int)] 3)).grown hg7 (fun e => neBlk (h.B.below hb1) (hblk.alloc _) neIP e.symm)
  exact hK A c w7 hs7.1 hs7.2.1 hs7.2.2 (hbk7.cell 0) (hbk7.cell 1) (hbk7.cell 2) (hbk7.frozen 2)
end Go.Proofs.YtdjchjmmpjofcaaDoor
