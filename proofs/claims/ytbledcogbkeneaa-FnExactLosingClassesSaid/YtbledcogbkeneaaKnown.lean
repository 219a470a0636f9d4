/- The program's map of misere values: keys, what it holds. Conditions: none. -/
import Derived.Test.YtbledcogbkeneaaMz0
import Derived.Test.YtbledcogbkeneaaBytes
import Derived.Maps.OwnSet
import Derived.Maps.OwnOps
import Derived.Maps.Views
namespace Go.Proofs.Ytbledcogbkeneaa
open Go.RowKit Go.Maps
set_option linter.unusedVariables false

/-- The program's key of a position. -/
def kB (p : List Int) : List UInt8 := 0 :: 0 :: p.map fun x => UInt8.ofNat x.toNat
def kS (p : List Int) : ByteArray := str (kB p)
theorem kS_size (p : List Int) : (kS p).size = p.length + 2 := by unfold kS kB; rw [str_size]; simp
theorem u8_inj {x y : Int} (hx : 1 ≤ x ∧ x ≤ 20) (hy : 1 ≤ y ∧ y ≤ 20) (h : UInt8.ofNat x.toNat = UInt8.ofNat y.toNat) : x = y := by
  have := congrArg UInt8.toNat h
  rw [UInt8.toNat_ofNat', UInt8.toNat_ofNat'] at this
  omega
theorem mapU_inj : ∀ {p q : List Int}, (∀ x ∈ p, 1 ≤ x ∧ x ≤ 20) → (∀ x ∈ q, 1 ≤ x ∧ x ≤ 20) → (p.map fun x => UInt8.ofNat x.toNat) = (q.map fun x => UInt8.ofNat x.toNat) → p = q
  | [], [], _, _, _ => rfl
  | [], _ :: _, _, _, h => by simp at h
  | _ :: _, [], _, _, h => by simp at h
  | x :: xs, y :: ys, hp, hq, h => by
    simp only [List.map_cons, List.cons.injEq] at h
    rw [u8_inj (hp x List.mem_cons_self) (hq y List.mem_cons_self) h.1, mapU_inj (fun z hz => hp z (List.mem_cons_of_mem _ hz)) (fun z hz => hq z (List.mem_cons_of_mem _ hz)) h.2]
theorem kB_inj {p q : List Int} (hp : Hp 20 p) (hq : Hp 20 q) (h : kB p = kB q) : p = q := by
  unfold kB at h
  injection h with _ h
  injection h with _ h
  exact mapU_inj (fun x hx => hp.le hx) (fun x hx => hq.le hx) h
theorem kL_inj {p q : List Int} (hp : Hp 20 p) (hq : Hp 20 q) (h : Lit.string (kS p).data.toList = Lit.string (kS q).data.toList) : p = q := by
  injection h with h
  exact kB_inj hp hq h

theorem keyedSt : Keyed Try.prog 9 := string_keyed Try.underlying9
theorem zeroIn (w : World) : (zeroValue 3).run Try.prog w = .ok (.int .i64 0) w := by kernel_rfl
/-- Block b holds what is known of positions: K. -/
def MapM (w : World) (b : Nat) (cs : List Int) (K : List (List Int)) : Prop :=
  ∃ D : DataW Unit, w.ownsMap Try.prog 9 (plainElem (H := Unit) Try.prog 3) b K.length D ∧ K.Nodup ∧ (∀ t ∈ K, Hp 20 t) ∧
    (∀ t : List Int, Hp 20 t → (Maps.has D (.string (kS t).data.toList) = true ↔ t ∈ K)) ∧ (∀ t ∈ K, D.atKey (.string (kS t).data.toList) (.lit (.int .i64 0)) = .lit (.int .i64 (mz cs t : Nat)))
theorem MapM.kept {w w' : World} {b : Nat} {cs : List Int} {K : List (List Int)} {row : Option Nat} (h : MapM w b cs K) (hg : w.grownBy w' row) (hne : some b ≠ row) : MapM w' b cs K := by
  obtain ⟨D, h1, r⟩ := h
  exact ⟨D, h1.kept hg hne, r⟩
theorem belowG {w w' : World} (h : Below w.heap.size w w') (row : Option Nat) : w.grownBy w' row := ⟨h.os, h.tape, h.output, h.size, fun k hk _ => h.block k hk⟩
theorem grownR (w : World) (row : Option Nat) : w.grownBy w row := ⟨rfl, rfl, rfl, Nat.le_refl _, fun _ _ _ => rfl⟩
theorem MapM.lt {w : World} {b : Nat} {cs : List Int} {K : List (List Int)} (h : MapM w b cs K) : b < w.heap.size := by
  obtain ⟨D, h1, r⟩ := h
  exact h1.lt
theorem MapM.put {w' : World} {b : Nat} {cs : List Int} {K : List (List Int)} {D : DataW Unit} (s : List Int) (hs : Hp 20 s) (hn : s ∉ K)
    (hm : IsMap D) (hd : K.Nodup) (hK : ∀ t ∈ K, Hp 20 t) (hh : ∀ t : List Int, Hp 20 t → (Maps.has D (.string (kS t).data.toList) = true ↔ t ∈ K)) (ha : ∀ t ∈ K, D.atKey (.string (kS t).data.toList) (.lit (.int .i64 0)) = .lit (.int .i64 (mz cs t : Nat)))
    (ho : w'.ownsMap Try.prog 9 (plainElem (H := Unit) Try.prog 3) b (K.length + 1) (D.put (.string (kS s).data.toList) (.lit (.int .i64 (mz cs s : Nat))))) : MapM w' b cs (s :: K) := by
  refine ⟨_, ho, List.nodup_cons.2 ⟨hn, hd⟩, ?_, ?_, ?_⟩
  · intro t ht
    rcases List.mem_cons.1 ht with rfl | ht
    · exact hs
    · exact hK t ht
  · intro t htp
    by_cases e : t = s
    · subst e
      rw [has_put_same hm (by trivial)]
      simp
    · rw [has_put_other (fun h => e (kL_inj htp hs h)), hh t htp]
      simp [e]
  · intro t ht
    by_cases e : t = s
    · subst e
      rw [atKey_put_same hm (by trivial)]
    · rcases List.mem_cons.1 ht with rfl | ht
      · exact absurd rfl e
      · rw [atKey_put_other (fun h => e (kL_inj (hK t ht) hs h))]
        exact ha t ht
theorem MapM.new (w : World) (cs : List Int) : MapM (w.alloc (.map #[] 0)) w.heap.size cs [] :=
  ⟨.map [], World.ownsMap_made w _ _ _, List.nodup_nil, fun t ht => absurd ht (by simp), fun t _ => by simp [Maps.has], fun t ht => absurd ht (by simp)⟩

/-- A look-up at bools. -/
theorem plainElem_bool_inv {P : Program} {e : TypeId} (he : P.underlying e = some .bool) {v : Value} {z : DataW Unit × List MemPlace} (h : plainElem P e v = some z) : ∃ x, v = .bool x ∧ z = (.lit (.bool x), []) := by
  unfold plainElem at h
  rw [he] at h
  cases v <;> simp at h
  exact ⟨_, rfl, h.symm⟩
theorem wpList_lookup_own_bool {P : Program} (w : World) {ops : Array Oper} {rest : List Oper} {o : Oper} {a : Act} {Q : Exit → Act → World → Prop}
    (hg : o.guard = none) (m x : Operand) (t : TypeId) (hop : o.op = Op.lookup t m x false)
    (k e : TypeId) (K : Keyed P k) (ht : P.underlying t = some (.map k e)) (he : P.underlying e = some .bool) (hz : (zeroValue e).run P w = .ok (.bool false) w) (b n : Nat) (D : DataW Unit)
    (hm : a.eval m = .map (some b)) (hown : w.ownsMap P k (plainElem P e) b n D) (key : Value) (kl : Lit) (hx : a.eval x = key) (hkey : keyOf P k key = some kl)
    (hK : ∀ c : Bool, D.atKey kl (.lit (.bool false)) = .lit (.bool c) → wpList P ops Q rest (a.put o.dst (.bool c)) w) :
    wpList P ops Q (o :: rest) a w := by
  refine wpList_plain hg fun K' hK' => ?_
  obtain ⟨v, ps, hrun, hv⟩ := hown.lookup K ht hz (plainElem_bool he false) hkey
  obtain ⟨c, rfl, hc⟩ := plainElem_bool_inv he hv
  simp only [Prod.mk.injEq] at hc
  unfold Oper.wp
  simp [execOp, hop, hm, hx, hrun, Result.andThen]
  exact hK' _ _ (hK c hc.1)

/-- Block b holds the numbers that were seen. -/
def SeenM (w : World) (b n : Nat) (xs : List Int) : Prop :=
  ∃ D : DataW Unit, w.ownsMap Try.prog 3 (plainElem (H := Unit) Try.prog 4) b n D ∧ ∀ x : Int, D.atKey (.int .i64 x) (.lit (.bool false)) = .lit (.bool (decide (x ∈ xs)))
theorem keyedI : Keyed Try.prog 3 := int_keyed Try.underlying3
theorem zeroBo (w : World) : (zeroValue 4).run Try.prog w = .ok (.bool false) w := by kernel_rfl
theorem SeenM.new (w : World) : SeenM (w.alloc (.map #[] 0)) w.heap.size 0 [] :=
  ⟨.map [], World.ownsMap_made w _ _ _, fun x => by simp [DataW.atKey]⟩
theorem SeenM.lt {w : World} {b n : Nat} {xs : List Int} (h : SeenM w b n xs) : b < w.heap.size := by
  obtain ⟨D, h1, r⟩ := h
  exact h1.lt
theorem SeenM.put {w' : World} {b n : Nat} {xs : List Int} {D : DataW Unit} (y : Int) (hm : IsMap D) (ha : ∀ x : Int, D.atKey (.int .i64 x) (.lit (.bool false)) = .lit (.bool (decide (x ∈ xs))))
    (ho : w'.ownsMap Try.prog 3 (plainElem (H := Unit) Try.prog 4) b (n + 1) (D.put (.int .i64 y) (.lit (.bool true)))) : SeenM w' b (n + 1) (xs ++ [y]) := by
  refine ⟨_, ho, fun x => ?_⟩
  by_cases e : x = y
  · subst e
    rw [atKey_put_same hm (by trivial)]
    simp
  · rw [atKey_put_other (fun h => e (by injection h)), ha]
    simp [e]
end Go.Proofs.Ytbledcogbkeneaa
