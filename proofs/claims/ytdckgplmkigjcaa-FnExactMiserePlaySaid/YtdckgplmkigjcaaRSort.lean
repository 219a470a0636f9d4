/- slices.SortFunc at rows of heaps, by its contract. Conditions: none. -/
import Derived.Test.YtdckgplmkigjcaaCmpH
import Derived.Test.YtdckgplmkigjcaaShelfF
import Derived.Lib.OwnBridge
namespace Go.Proofs.Ytdckgplmkigjcaa
open Go.RowKit Go.Sort
set_option linter.unusedVariables false

theorem cmpH_lt (a b : List Int) : decide (cmpH a b < 0) = aheadB a b := by
  unfold cmpH aheadB
  by_cases h : a.length = b.length
  · rw [if_pos h, if_pos h]
  · rw [if_neg h, if_neg h]
    by_cases k : a.length < b.length
    · rw [if_pos k]; simp [k]
    · rw [if_neg k]; simp [k]
theorem ahead_nt {a b c : List Int} (h : aheadB a b = false) (k : aheadB b c = false) : aheadB a c = false := by
  cases hac : aheadB a c
  · rfl
  · cases hba : aheadB b a
    · rw [ahead_tri h hba] at hac
      rw [hac] at k; cases k
    · rw [ahead_trans hba hac] at k; cases k

/-- A row with what it holds, read apart from block g. -/
structure HRow (w : World) (g : Nat) where
  v : Value
  xs : List Int
  rd : RdX w g v xs
instance (w : World) (g : Nat) : Inhabited (HRow w g) := ⟨⟨.slice none 0 0, [], ⟨none, 0, rfl, Rd.nil, fun a h => by cases h⟩⟩⟩

theorem sortWorld_block {α : Type} [Inhabited α] {enc : α → Value} {w : World} {g m : Nat} {dk : Array α} {os : Array Obj} {k : Nat} (hk : k < w.heap.size) (hne : k ≠ g) : (sortWorld enc w g 0 m dk os).heap[k]? = w.heap[k]? := by
  unfold sortWorld
  show ((putRow enc (Sort.ahead w m) g 0 dk).heap ++ os)[k]? = _
  rw [Array.getElem?_append_left (by simpa [putRow, mapBlock, Sort.ahead] using hk)]
  simp [putRow, mapBlock, Sort.ahead, Array.getElem?_modify, Ne.symm hne]
theorem sortWorld_size {α : Type} [Inhabited α] {enc : α → Value} {w : World} {g m : Nat} {dk : Array α} {os : Array Obj} : w.heap.size ≤ (sortWorld enc w g 0 m dk os).heap.size := by
  unfold sortWorld
  show _ ≤ ((putRow enc (Sort.ahead w m) g 0 dk).heap ++ os).size
  simp [putRow, mapBlock, Sort.ahead]

set_option maxHeartbeats 800000 in
theorem sortRows_any (g cap base : Nat) (L : List (Value × List Int)) (w : World) (hR : ∀ x ∈ L, RdX w g x.1 x.2) (hn : L.length ≤ 1000000)
    (ho : Own w base 22 (.slice (some ⟨g, 0, none⟩) L.length cap) (L.map (·.1))) :
    Calls Try.prog 110 #[.slice (some ⟨g, 0, none⟩) L.length cap, .func (.func 111) #[] #[]] w fun e w' =>
      e = .returned (.tuple #[]) ∧ ∃ M : List (Value × List Int), M.Perm L ∧ (M.map (·.2)).Pairwise (fun a b => aheadB b a = false) ∧ Own w' base 22 (.slice (some ⟨g, 0, none⟩) L.length cap) (M.map (·.1)) ∧ w.grownBy w' (some g) := by
  obtain ⟨D, hD⟩ : ∃ D : List (HRow w g), D.map (fun r => (r.v, r.xs)) = L := by
    clear ho hn
    induction L with
    | nil => exact ⟨[], rfl⟩
    | cons x xs ih =>
      obtain ⟨D, hD⟩ := ih fun y hy => hR y (List.mem_cons_of_mem _ hy)
      exact ⟨⟨x.1, x.2, hR x List.mem_cons_self⟩ :: D, by simp [hD]⟩
  have hlen : D.length = L.length := by rw [← hD, List.length_map]
  have hv : L.map (·.1) = D.map (·.v) := by rw [← hD, List.map_map]; rfl
  have ho' : w.ownsRow base 22 1 (.slice (some ⟨g, 0, none⟩) L.length cap) L.length (D.map (·.v)) := by
    have := ho; unfold Own at this; rw [hv, List.length_map, hlen] at this; exact this
  obtain ⟨g', cap', e0, hb, hlt, h1, h2, h3, hH⟩ := Lib.holds_of_ownsRow ho' (by simp)
  cases e0
  have hcmp : CmpLays1 Try.prog 111 #[] (HRow.v (w := w) (g := g)) (fun x y => cmpH x.xs y.xs) g 0 D.toArray.size w := by
    intro m os dk _ x y
    obtain ⟨A, c, e1, r1, n1⟩ := x.rd
    obtain ⟨A', c', e2, r2, n2⟩ := y.rd
    rw [e1, e2]
    refine (compare_any A A' c c' x.xs y.xs (sortWorld HRow.v w g 0 m dk os) w.heap.size sortWorld_size (r1.keepX n1 fun k hk hne => sortWorld_block hk hne) (r2.keepX n2 fun k hk hne => sortWorld_block hk hne)).mono ?_
    rintro e w' ⟨he, hg⟩
    exact ⟨he, hg.form⟩
  have hO : SWO (ltOf fun x y : HRow w g => cmpH x.xs y.xs) :=
    ⟨fun x => by show decide (cmpH _ _ < 0) = _; rw [cmpH_lt]; exact ahead_irrefl _,
     fun x y z h k => by
       have h : decide (cmpH _ _ < 0) = true := h
       have k : decide (cmpH _ _ < 0) = true := k
       show decide (cmpH _ _ < 0) = _
       rw [cmpH_lt] at h k ⊢
       exact ahead_trans h k,
     fun x y z h k => by
       have h : decide (cmpH _ _ < 0) = false := h
       have k : decide (cmpH _ _ < 0) = false := k
       show decide (cmpH _ _ < 0) = _
       rw [cmpH_lt] at h k ⊢
       exact ahead_nt h k⟩
  have hsz : D.toArray.size = L.length := by simpa using hlen
  have hcall := Any.slices_SortFunc Try.lays_f110 (HRow.v (w := w) (g := g)) (fun x => x.rd.oneCell) (fun x y => cmpH x.xs y.xs) hO 111 #[] g 0 cap D.toArray w
    (fun args w => enters_of Try.func111 (by kernel_rfl) rfl args w) hcmp hH hlt (by omega)
  rw [hsz] at hcall
  refine hcall.mono ?_
  rintro e w' ⟨he, d', n, os, ⟨p1, p2, p3⟩, hs, rfl⟩
  have hd' : d'.size = L.length := by rw [p1, hsz]
  have hperm : d'.toList.Perm D := by
    have e1 : d'.extract 0 L.length = d' := by rw [← hd']; exact Array.extract_size
    have e2 : D.toArray.extract 0 L.length = D.toArray := by rw [← hsz]; exact Array.extract_size
    rw [e1, e2] at p3
    exact p3
  refine ⟨he, d'.toList.map (fun r => (r.v, r.xs)), ?_, ?_, ?_, ?_⟩
  · rw [← hD]; exact hperm.map _
  · rw [List.map_map, List.pairwise_map, List.pairwise_iff_getElem]
    intro i j hi hj hij
    rw [Array.length_toList] at hi hj
    have := hs i j (Nat.zero_le _) hij (by omega)
    have := this
    rw [getElem!_pos d' j (by omega), getElem!_pos d' i (by omega)] at this
    have this : decide (cmpH _ _ < 0) = false := this
    rw [cmpH_lt] at this
    exact this
  · have h5 := Lib.ownsRow_putRow (q := n) (k := L.length) (ys := d'.toList) ho' (by rw [Array.length_toList, hd']) (Nat.le_refl _)
    have e3 : d'.toList.take L.length = d'.toList := by rw [← hd', ← Array.length_toList, List.take_length]
    rw [e3] at h5
    have h6 : World.ownsRow (sortWorld HRow.v w g 0 n d' os) base 22 1 (.slice (some ⟨g, 0, none⟩) L.length cap) L.length (d'.toList.map (·.v)) := by
      refine ownsRow_below h5 (B := (putRow (HRow.v (w := w) (g := g)) (Sort.ahead w n) g 0 d').heap.size) ?_ fun k hk => (h5.lt k hk).2
      exact ⟨rfl, rfl, rfl, by show _ ≤ (_ ++ os).size; simp, fun k hk => by show (_ ++ os)[k]? = _; rw [Array.getElem?_append_left hk]⟩
    have e4 : (d'.toList.map fun r => (r.v, r.xs)).map (·.1) = d'.toList.map (·.v) := by rw [List.map_map]; rfl
    have e5 : (d'.toList.map (·.v)).length = L.length := by rw [List.length_map, Array.length_toList, hd']
    rw [e4]
    unfold Own
    rw [e5]
    exact h6
  · exact ⟨rfl, rfl, rfl, sortWorld_size, fun k hk hne => sortWorld_block hk fun e => hne (by rw [e])⟩
end Go.Proofs.Ytdckgplmkigjcaa
