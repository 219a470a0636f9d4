/- A new slice of new rows that is built row by row; one row more. Conditions: none. -/
import Derived.Test.YtdckgplmkigjcaaHeap1
import Derived.Test.YtdckgplmkigjcaaMoves3
namespace Go.Proofs.Ytdckgplmkigjcaa
open Go.RowKit
set_option linter.unusedVariables false

/-- v is a new slice of new rows, at most b of them, those for which P holds. -/
def MvW (w : World) (lo : Nat) (v : Value) (b : Nat) (P : List Int → Prop) : Prop :=
  ∃ (xss : List (List Int)) (g c : Nat), v = .slice (some ⟨g, 0, none⟩) xss.length c ∧ FrR w lo 22 3 v (xss.map ints) ∧ xss.length ≤ b ∧ ∀ xs, xs ∈ xss ↔ P xs
theorem MvW.congr {w : World} {lo : Nat} {v : Value} {b b' : Nat} {P Q : List Int → Prop} (h : MvW w lo v b P) (hb : b ≤ b') (hq : ∀ xs, P xs ↔ Q xs) : MvW w lo v b' Q := by
  obtain ⟨xss, g, c, h1, h2, h4, h5⟩ := h
  exact ⟨xss, g, c, h1, h2, by omega, fun xs => (h5 xs).trans (hq xs)⟩
theorem MvW.below {w w' : World} {lo : Nat} {v : Value} {b : Nat} {P : List Int → Prop} (h : MvW w lo v b P) (hb : Below w.heap.size w w') : MvW w' lo v b P := by
  obtain ⟨xss, g, c, h1, h2, r⟩ := h
  exact ⟨xss, g, c, h1, h2.below hb, r⟩
theorem MvW.new (w : World) (P : List Int → Prop) (hP : ∀ xs, ¬ P xs) : MvW (w.alloc (.cells #[] 22)) w.heap.size (.slice (some ⟨w.heap.size, 0, none⟩) 0 0) 0 P :=
  ⟨[], w.heap.size, 0, rfl, FrR.nil (Own.empty w 22 22 _ (Nat.le_refl _)), by simp, fun xs => ⟨fun h => (by cases h), fun h => absurd h (hP xs)⟩⟩
theorem own_lits (w : World) (xs : List Int) (base : Nat) (hb : base ≤ w.heap.size) (hl : xs.length ≤ 1000) : Own (w.alloc (.cells (ints xs).toArray 3)) base 3 (.slice (some ⟨w.heap.size, 0, none⟩) xs.length xs.length) (ints xs) := by
  have h : World.ownsRow (w.alloc (.cells (ints xs).toArray 3)) base 3 1 (.slice (some ⟨w.heap.size, 0, none⟩) xs.length xs.length) xs.length (ints xs).toArray.toList := World.ownsRow_lit w (ints xs).toArray xs.length hb (by unfold maxLen; omega) (by simp [ints])
  unfold Own
  rw [ints_len]
  exact h
theorem frr_app {W w1 W2 w' : World} {lo : Nat} {v : Value} {b : Nat} {P : List Int → Prop} {xss : List (List Int)} {cs : List Value} {g c : Nat} {A c' : _} {r : Value} {xs : List Int} (hF : Own W lo 22 v cs ∧ FrC W lo 3 cs (xss.map ints) ∧ ∀ (i : Nat) (u : Value) (g : Nat), cs[i]? = some u → u.ownBlock = some g → v.ownBlock ≠ some g) (hlo : lo ≤ W.heap.size) (hxl : xss.length ≤ b) (hP : ∀ xs, xs ∈ xss ↔ P xs)
    (hb1 : Below W.heap.size W w1) (hr : Own w1 W.heap.size 3 r (ints xs)) (hb2 : Below w1.heap.size w1 W2)
    (ho : Own w' lo 22 (.slice A (xss.length + 1) c') (cs ++ [r])) (hg : W2.grownBy w' v.ownBlock) (hp : (Value.slice A (xss.length + 1) c').ownBlock = v.ownBlock ∨ (Value.slice A (xss.length + 1) c').ownBlock = some W2.heap.size) :
    MvW w' lo (.slice A (xss.length + 1) c') (b + 1) (fun ys => P ys ∨ ys = xs) := by
  have hcl : cs.length = xss.length := by rw [hF.2.1.1, List.length_map]
  obtain ⟨g', rfl, _⟩ := ho.at (by rw [List.length_append, List.length_singleton]; omega)
  have e : (xss ++ [xs]).length = xss.length + 1 := by simp
  have hfr := FrR.push hF hlo hb1 hr hb2 ho hg hp
  refine ⟨xss ++ [xs], g', c', by rw [e], ?_, by rw [e]; omega, fun ys => ?_⟩
  · rw [List.map_append]
    exact hfr
  · rw [List.mem_append, hP, List.mem_singleton]
theorem app_row {W : World} {ops : Array Oper} {rest : List Oper} {o : Oper} {a : Act} {Q : Exit → Act → World → Prop} (hgd : o.guard = none) (s x : Operand)
    (ho : o.op = .call { callee := .builtin .append, args := #[s, x], argTypes := #[32, 32] }) (lo : Nat) (v : Value) (b : Nat) (P : List Int → Prop) (xs : List Int)
    (hm : MvW W lo v b P) (hlo : lo ≤ W.heap.size) (W2 : World) (hW2 : W2 = (W.alloc (.cells (ints xs).toArray 3)).alloc (.cells #[.slice (some ⟨W.heap.size, 0, none⟩) xs.length xs.length] 22))
    (hs : a.eval s = v) (hx : a.eval x = .slice (some ⟨W.heap.size + 1, 0, none⟩) 1 1) (hlen : xs.length ≤ 1000) (hb : b ≤ 100000000)
    (h : ∀ v' w', MvW w' lo v' (b + 1) (fun ys => P ys ∨ ys = xs) → Below lo W w' → W.heap.size ≤ w'.heap.size → wpList Try.prog ops Q rest (a.put o.dst v') w') :
    wpList Try.prog ops Q (o :: rest) a W2 := by
  subst hW2
  obtain ⟨xss, g, c, hv, ⟨cs, hF⟩, hxl, hP⟩ := hm
  have hcl : cs.length = xss.length := by rw [hF.2.1.1, List.length_map]
  have hb1 : Below W.heap.size W (W.alloc (.cells (ints xs).toArray 3)) := bel1 _ _
  have hb2 : Below (W.alloc (.cells (ints xs).toArray 3)).heap.size (W.alloc (.cells (ints xs).toArray 3)) ((W.alloc (.cells (ints xs).toArray 3)).alloc (.cells #[.slice (some ⟨W.heap.size, 0, none⟩) xs.length xs.length] 22)) := bel1 _ _
  have hb12 := gtr hb1 hb2
  refine wpList_append_at hgd s x 32 22 (.slice none 0 0) 24 ho Try.underlying32 infoRow rfl (by omega) lo v cs hs (hF.1.below hb12) (W.heap.size + 2) (some ⟨W.heap.size + 1, 0, none⟩) 1 1 [.slice (some ⟨W.heap.size, 0, none⟩) xs.length xs.length] hx rfl (Rd.of_blk (Blk.new_at _ _ _ (by simp)) (Nat.lt_succ_self _)) (fun u hu => by simp at hu; subst hu; rfl) (by simp; omega) (by have := hb12.size; omega) ?_
  intro A6 c6 w6 ho6 hb6 hg6 hp6
  rw [hcl, List.length_singleton] at ho6 hp6 ⊢
  refine h _ w6 (frr_app (g := g) (c := c) hF hlo hxl hP hb1 (own_lits W xs _ (Nat.le_refl _) hlen) hb2 ho6 hg6 hp6) ((hb12.mono hlo).trans hb6) (Nat.le_trans hb12.size hg6.size)
/-- A new slice of new rows in order, at most b of them, those for which P holds. -/
def HL (w : World) (lo : Nat) (v : Value) (b : Nat) (P : List Int → Prop) : Prop :=
  ∃ (L : List (Value × List Int)) (g c : Nat), v = .slice (some ⟨g, 0, none⟩) L.length c ∧ Own w lo 22 v (L.map (·.1)) ∧ FrP w lo L ∧ (∀ x ∈ L, x.1.ownBlock ≠ some g) ∧ Sorted (L.map (·.2)) ∧ L.length ≤ b ∧ ∀ xs, xs ∈ L.map (·.2) ↔ P xs
theorem HL.congr {w : World} {lo : Nat} {v : Value} {b b' : Nat} {P Q : List Int → Prop} (h : HL w lo v b P) (hb : b ≤ b') (hq : ∀ xs, P xs ↔ Q xs) : HL w lo v b' Q := by
  obtain ⟨L, g, c, h1, h2, h3, h4, h5, h6, h7⟩ := h
  exact ⟨L, g, c, h1, h2, h3, h4, h5, by omega, fun xs => (h7 xs).trans (hq xs)⟩
theorem HL.below {w w' : World} {lo : Nat} {v : Value} {b : Nat} {P : List Int → Prop} (h : HL w lo v b P) (hb : Below w.heap.size w w') : HL w' lo v b P := by
  obtain ⟨L, g, c, h1, h2, h3, r⟩ := h
  exact ⟨L, g, c, h1, h2.below hb, h3.keep fun x hx k => k.below hb, r⟩
/-- The rows that were gathered, in order. -/
theorem sortedHeaps_of (lo : Nat) (v : Value) (b : Nat) (P : List Int → Prop) (w : World) (h : MvW w lo v b P) (hb : b ≤ 1000000) :
    Calls Try.prog 99 #[v] w fun e w' => ∃ v', e = .returned v' ∧ HL w' lo v' b P ∧ Below lo w w' ∧ w.heap.size ≤ w'.heap.size := by
  obtain ⟨xss, g, c, rfl, hF, hxl, hP⟩ := h
  obtain ⟨cs, h1, h2, h3⟩ := hF
  have hcl : cs.length = xss.length := by rw [h2.1, List.length_map]
  obtain ⟨z1, z2⟩ := zip_fst cs xss hcl
  have hl : (cs.zip xss).length = xss.length := by rw [List.length_zip]; omega
  have hap : ∀ x ∈ cs.zip xss, x.1.ownBlock ≠ some g := fun x hx he => by
    obtain ⟨i, hi, rfl⟩ := List.getElem_of_mem hx
    rw [List.getElem_zip] at he
    rw [List.length_zip] at hi
    exact h3 i _ g (List.getElem?_eq_getElem (by omega)) he rfl
  have hcall := sortedHeaps_any g c lo (cs.zip xss) w (by omega) (by rw [z1, hl]; exact h1) h2.frp hap
  rw [hl] at hcall
  refine hcall.mono ?_
  rintro e w' ⟨L', rfl, ho, hP', hg', hs, hm, hle, hgr⟩
  refine ⟨_, rfl, ⟨L', g, c, rfl, ho, hP', hg', hs, by omega, fun xs => ?_⟩, ?_, hgr.size⟩
  · rw [hm, z2, hP]
  · have hgl := (h1.lt g rfl).1
    exact ⟨hgr.os, hgr.tape, hgr.output, hgr.size, fun k hk => hgr.block k (by have := (h1.lt g rfl).2; omega) (by simp; omega)⟩
end Go.Proofs.Ytdckgplmkigjcaa
