/- The pool of games read; the marks of what was seen. Conditions: none. -/
import Derived.Test.YtdjchjmmpjofcaaDoorStr0
namespace Go.Proofs.YtdjchjmmpjofcaaDoor
open Go.RowKit Go.Maps
set_option linter.unusedVariables false

/-- The pool at p holds the stars up to n. -/
structure PR (w : World) (B p n gL gR gB cL cR cB : Nat) : Prop where
  pl : p < B
  ll : gL < B
  rl : gR < B
  bl : gB < B
  lc : n + 1 ≤ cL
  rc : n + 1 ≤ cR
  bc : n + 1 ≤ cB
  c0 : w.cell? ⟨p, 0, none⟩ = some (.slice (some ⟨gL, 0, none⟩) (n + 1) cL)
  c1 : w.cell? ⟨p, 1, none⟩ = some (.slice (some ⟨gR, 0, none⟩) (n + 1) cR)
  c2 : w.cell? ⟨p, 2, none⟩ = some (.slice (some ⟨gB, 0, none⟩) (n + 1) cB)
  left : ∀ i, i ≤ n → ∃ A c, w.cell? ⟨gL, i, none⟩ = some (.slice A i c) ∧ RdI w B A c (rng i)
  right : ∀ i, i ≤ n → ∃ A c, w.cell? ⟨gR, i, none⟩ = some (.slice A i c) ∧ RdI w B A c (rng i)
  born : ∀ i : Nat, i ≤ n → w.cell? ⟨gB, i, none⟩ = some (.int .i64 (i : Int))
theorem PR.below {w w' : World} {B p n gL gR gB cL cR cB : Nat} (h : PR w B p n gL gR gB cL cR cB) {B' : Nat} (hb : Below B' w w') (hB : B ≤ B') : PR w' B p n gL gR gB cL cR cB :=
  ⟨h.pl, h.ll, h.rl, h.bl, h.lc, h.rc, h.bc, (hb.cell (p := ⟨p, 0, none⟩) (Nat.lt_of_lt_of_le h.pl hB)).trans h.c0, (hb.cell (p := ⟨p, 1, none⟩) (Nat.lt_of_lt_of_le h.pl hB)).trans h.c1, (hb.cell (p := ⟨p, 2, none⟩) (Nat.lt_of_lt_of_le h.pl hB)).trans h.c2,
    fun i hi => by obtain ⟨A, c, h1, h2⟩ := h.left i hi; exact ⟨A, c, (hb.cell (p := ⟨gL, i, none⟩) (Nat.lt_of_lt_of_le h.ll hB)).trans h1, RdI.below h2 hb hB⟩,
    fun i hi => by obtain ⟨A, c, h1, h2⟩ := h.right i hi; exact ⟨A, c, (hb.cell (p := ⟨gR, i, none⟩) (Nat.lt_of_lt_of_le h.rl hB)).trans h1, RdI.below h2 hb hB⟩,
    fun i hi => (hb.cell (p := ⟨gB, i, none⟩) (Nat.lt_of_lt_of_le h.bl hB)).trans (h.born i hi)⟩
theorem PoolG.read {w : World} {lo p mf n : Nat} {vL vR vB : Value} {us vs : List Value} (h : PoolG w lo p mf (n + 1) (n + 1) (n + 1) (n + 1) vL vR vB us vs) : ∃ gL gR gB cL cR cB, PR w w.heap.size p n gL gR gB cL cR cB := by
  obtain ⟨m1, m2, m3, m4, hblk⟩ := h.blk
  have hu := h.ul
  have hv := h.vl
  obtain ⟨AL, cL, hvL⟩ := h.L.form
  obtain ⟨AR, cR, hvR⟩ := h.R.form
  obtain ⟨AB, cB, hvB⟩ := h.B.form
  rw [hu] at hvL
  rw [hv] at hvR
  rw [ints_len, rng_len] at hvB
  have hL := h.L
  have hR := h.R
  have hB := h.B
  rw [hvL] at hL
  rw [hvR] at hR
  rw [hvB] at hB
  obtain ⟨gL, rfl, -, -, hgL, hcL, -⟩ := hL.at (by omega)
  obtain ⟨gR, rfl, -, -, hgR, hcR, -⟩ := hR.at (by omega)
  obtain ⟨gB, rfl, -, -, hgB, hcB, -⟩ := hB.at (by rw [ints_len, rng_len]; omega)
  have lL := hL.rd.len
  have lR := hR.rd.len
  have lB := hB.rd.len
  rw [hu] at lL
  rw [hv] at lR
  rw [ints_len, rng_len] at lB
  refine ⟨gL, gR, gB, cL, cR, cB, hblk.lt, hgL, hgR, hgB, lL, lR, lB, (hblk.cell 0).trans (by rw [← hvL]; rfl), (hblk.cell 1).trans (by rw [← hvR]; rfl), (hblk.cell 2).trans (by rw [← hvB]; rfl), fun i hi => ?_, fun i hi => ?_, fun i hi => ?_⟩
  · have hx : us[i]? = some (us[i]'(by omega)) := List.getElem?_eq_getElem (by omega)
    have ho := (h.ur i _ hx).1
    obtain ⟨A, c, hv⟩ := ho.form
    rw [ints_len, rng_len] at hv
    rw [hv] at hx ho
    exact ⟨A, c, hcL i _ hx, ho.rd⟩
  · have hx : vs[i]? = some (vs[i]'(by omega)) := List.getElem?_eq_getElem (by omega)
    have ho := (h.vr i _ hx).1
    obtain ⟨A, c, hv⟩ := ho.form
    rw [ints_len, rng_len] at hv
    rw [hv] at hx ho
    exact ⟨A, c, hcR i _ hx, ho.rd⟩
  · rw [hcB i _ (ints_at _ i (by rw [rng_len]; omega)), gi_rng _ i (by omega)]

/-- A look-up at bools. -/
theorem plainElem_bool_inv {P : Program} {e : TypeId} (he : P.underlying e = some .bool) {v : Value} {z : DataW Unit × List MemPlace} (h : plainElem P e v = some z) : ∃ x, v = .bool x ∧ z = (.lit (.bool x), []) := by
  unfold plainElem at h
  rw [he] at h
  cases v <;> simp at h
  exact ⟨_, rfl, h.symm⟩
theorem wpList_lookup_own_bool {P : Program} (w : World) {ops : Array Oper} {rest : List Oper} {o : Oper} {a : Act} {Q : Exit → Act → World → Prop}
    (hg : o.guard = none) (m x : Operand) (t : TypeId) (hop : o.op = Op.lookup t m x false)
    (k e : TypeId) (K : Keyed P k) (ht : P.underlying t = some (.map k e)) (he : P.underlying e = some .bool) (hz : (zeroValue e).run P w = .ok (.bool false) w) (b n : Nat) (D : DataW Unit)
    (hm : a.eval m = .map (some b)) (hown : w.ownsMap P k (plainElem P e) b n D) (key : Value) (kl : Lit) (hx : a.eval x = key) (hkey : keyOf P k key = some kl)
    (hK : ∀ c : Bool, D.atKey kl (.lit (.bool false)) = .lit (.bool c) → wpList P ops Q rest (a.put o.dst (.bool c)) w) :
    wpList P ops Q (o :: rest) a w := by
  refine wpList_plain hg fun K' hK' => ?_
  obtain ⟨v, ps, hrun, hv⟩ := hown.lookup K ht hz (plainElem_bool he false) hkey
  obtain ⟨c, rfl, hc⟩ := plainElem_bool_inv he hv
  simp only [Prod.mk.injEq] at hc
  unfold Oper.wp
  simp [execOp, hop, hm, hx, hrun, Result.andThen]
  exact hK' _ _ (hK c hc.1)
/-- Block b holds the numbers that were seen. -/
def SeenM (w : World) (b n : Nat) (xs : List Int) : Prop :=
  ∃ D : DataW Unit, w.ownsMap Tryd.prog 3 (plainElem (H := Unit) Tryd.prog 4) b n D ∧ ∀ x : Int, D.atKey (.int .i64 x) (.lit (.bool false)) = .lit (.bool (decide (x ∈ xs)))
theorem keyedI : Keyed Tryd.prog 3 := int_keyed Tryd.underlying3
theorem zeroBo (w : World) : (zeroValue 4).run Tryd.prog w = .ok (.bool false) w := by kernel_rfl
theorem SeenM.new (w : World) : SeenM (w.alloc (.map #[] 0)) w.heap.size 0 [] :=
  ⟨.map [], World.ownsMap_made w _ _ _, fun x => by simp [DataW.atKey]⟩
theorem SeenM.lt {w : World} {b n : Nat} {xs : List Int} (h : SeenM w b n xs) : b < w.heap.size := by
  obtain ⟨D, h1, r⟩ := h
  exact h1.lt
theorem SeenM.kept {w w' : World} {b n : Nat} {xs : List Int} {row : Option Nat} (h : SeenM w b n xs) (hg : w.grownBy w' row) (hne : some b ≠ row) : SeenM w' b n xs := by
  obtain ⟨D, h1, h2⟩ := h
  exact ⟨D, h1.kept hg hne, h2⟩
theorem SeenM.put {w' : World} {b n : Nat} {xs : List Int} {D : DataW Unit} (y : Int) (hm : IsMap D) (ha : ∀ x : Int, D.atKey (.int .i64 x) (.lit (.bool false)) = .lit (.bool (decide (x ∈ xs))))
    (ho : w'.ownsMap Tryd.prog 3 (plainElem (H := Unit) Tryd.prog 4) b (n + 1) (D.put (.int .i64 y) (.lit (.bool true)))) : SeenM w' b (n + 1) (xs ++ [y]) := by
  refine ⟨_, ho, fun x => ?_⟩
  by_cases e : x = y
  · subst e
    rw [atKey_put_same hm (by trivial)]
    simp
  · rw [atKey_put_other (fun h => e (by injection h)), ha]
    simp [e]
theorem lit_bool {c d e : Bool} {x : DataW Unit} (h : x = .lit (.bool c)) (h2 : x = .lit (.bool d)) (h3 : d = e) : c = e := by
  rw [h2] at h
  injection h with h
  injection h with h
  rw [← h, h3]
/-- n and then the numbers below j. -/
def nlist (n j : Nat) : List Int := (n : Int) :: rng j
theorem nlist_len (n j : Nat) : (nlist n j).length = j + 1 := by simp [nlist, rng_len]
theorem nlist_succ (n j : Nat) : nlist n (j + 1) = nlist n j ++ [(j : Int)] := by simp [nlist, rng_succ]
theorem nlist_mem (n j t : Nat) (h : t ≠ n) : decide ((t : Int) ∈ nlist n j) = decide (t < j) := by
  apply decide_eq_decide.2
  unfold nlist rng
  rw [List.mem_cons, List.mem_map]
  constructor
  · rintro (e | ⟨i, hi, e⟩)
    · omega
    · have := List.mem_range.1 hi
      omega
  · intro hl
    exact .inr ⟨t, List.mem_range.2 hl, rfl⟩
end Go.Proofs.YtdjchjmmpjofcaaDoor
