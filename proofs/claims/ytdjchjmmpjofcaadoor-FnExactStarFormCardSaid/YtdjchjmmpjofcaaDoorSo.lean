/- The games of a star in the order of their birthdays: the program's sort, by contract. Conditions: none. -/
import Derived.Test.YtdjchjmmpjofcaaDoorPrt
import Derived.Test.YtdjchjmmpjofcaaDoorShelfF
import Derived.Lib.OwnBridge
import Derived.Deep.QuietTactic
import Derived.Deep.RegionHeld3
namespace Go.Proofs.YtdjchjmmpjofcaaDoor
open Go.RowKit Go.Maps Go.Lib Go.Sort Go.Shelf
set_option linter.unusedVariables false

theorem cmpI_any (x y : Int) (w : World) : Calls Tryd.prog 26 #[.int .i64 x, .int .i64 y] w fun e w' => e = .returned (.int .i64 (Lib.compareInt x y)) ∧ w' = w := Any.cmp_Compare_int Tryd.lays122 x y w
theorem cmpI_neg (x y : Int) : decide (Lib.compareInt x y < 0) = decide (x < y) := by
  unfold Lib.compareInt
  split
  · rename_i h; simp [h]
  · rename_i h
    split
    · simp [h]
    · simp [h]
set_option maxHeartbeats 800000 in
theorem closure_any (t2 p gB n cB x y : Nat) (W : World) (hx : x ≤ n) (hy : y ≤ n) (hcB : n + 1 ≤ cB) (h0 : W.cell? ⟨t2, 0, none⟩ = some (.pointer (some ⟨p, 0, none⟩))) (h1 : W.cell? ⟨p, 2, none⟩ = some (.slice (some ⟨gB, 0, none⟩) (n + 1) cB))
    (h2 : W.cell? ⟨gB, x, none⟩ = some (.int .i64 (x : Int))) (h3 : W.cell? ⟨gB, y, none⟩ = some (.int .i64 (y : Int))) :
    Calls Tryd.prog 25 #[.int .i64 (x : Int), .int .i64 (y : Int), .pointer (some ⟨t2, 0, none⟩)] W fun e w' => e = .returned (.int .i64 (Lib.compareInt x y)) ∧ ∃ q, w' = W.drewN q := by
  have hxI : (x : Int) < (n : Int) + 1 := by omega
  have hyI : (y : Int) < (n : Int) + 1 := by omega
  have HC := Lib.hid fun W => cmpI_any (x : Int) (y : Int) W
  go_enter Tryd.func25, Tryd.ntmps25
  go_wp2_with fail
  refine wp_region_tail 14 (by kernel_rfl) (by kernel_rfl) ?_
  simp only [List.take_succ_cons, List.take_zero, List.drop_succ_cons, List.drop_zero]
  repeat (go_big_quiet_step (fail))
  refine wpQuiet_nil ?_
  go_wp2_with (go_at_call 26; (with_reducible refine (HC.out _).mono ?_); rintro e w1 ⟨rfl, rfl⟩)
  go_ret
  exact ⟨rfl, 1, rfl⟩

theorem sortWorld_block {α : Type} [Inhabited α] {enc : α → Value} {w : World} {g m : Nat} {dk : Array α} {os : Array Obj} {k : Nat} (hk : k < w.heap.size) (hne : k ≠ g) : (sortWorld enc w g 0 m dk os).heap[k]? = w.heap[k]? := by
  unfold sortWorld
  show ((putRow enc (Sort.ahead w m) g 0 dk).heap ++ os)[k]? = _
  rw [Array.getElem?_append_left (by simpa [putRow, mapBlock, Sort.ahead] using hk)]
  simp [putRow, mapBlock, Sort.ahead, Array.getElem?_modify, Ne.symm hne]
theorem sortWorld_size {α : Type} [Inhabited α] {enc : α → Value} {w : World} {g m : Nat} {dk : Array α} {os : Array Obj} : w.heap.size ≤ (sortWorld enc w g 0 m dk os).heap.size := by
  unfold sortWorld
  show _ ≤ ((putRow enc (Sort.ahead w m) g 0 dk).heap ++ os).size
  simp [putRow, mapBlock, Sort.ahead]
theorem sortWorld_cell {α : Type} [Inhabited α] {enc : α → Value} {w : World} {g m : Nat} {dk : Array α} {os : Array Obj} {k i : Nat} {v : Value} (h : w.cell? ⟨k, i, none⟩ = some v) (hne : k ≠ g) : (sortWorld enc w g 0 m dk os).cell? ⟨k, i, none⟩ = some v := by
  have hk : k < w.heap.size := World.block_lt_of_cell? _ _ h
  unfold World.cell? at h ⊢
  rw [sortWorld_block hk hne]
  exact h
/-- What the elements of a sorted list are. -/
def encF (n : Nat) (i : Fin (n + 1)) : Value := .int .i64 ((i.val : Nat) : Int)
def starL (n : Nat) : List (Fin (n + 1)) := Fin.last n :: (List.finRange (n + 1)).take n
theorem sorted_all {n : Nat} {l : List (Fin (n + 1))} (hp : l.Perm (List.finRange (n + 1))) (hs : l.Pairwise (fun a b => a.val ≤ b.val)) : l = List.finRange (n + 1) := by
  refine hp.eq_of_pairwise (le := fun a b => a.val ≤ b.val) ?_ hs ?_
  · intro a b _ _ h1 h2
    exact Fin.ext (by omega)
  · rw [List.pairwise_iff_getElem]
    intro i j hi hj hij
    simp
    omega
theorem ints_fin (n : Nat) : (List.finRange (n + 1)).map (encF n) = ints (rng (n + 1)) := by
  apply List.ext_getElem?
  intro i
  by_cases h : i < n + 1
  · rw [ints_at _ i (by rw [rng_len]; exact h), gi_rng _ i h]
    simp [encF, h]
  · rw [List.getElem?_eq_none (by simp; omega), List.getElem?_eq_none (by rw [ints_len, rng_len]; omega)]
theorem ints_star (n : Nat) : (starL n).map (encF n) = ints (nlist n n) := by
  apply List.ext_getElem?
  intro i
  cases i with
  | zero => rfl
  | succ i =>
    show (((List.finRange (n + 1)).take n).map (encF n))[i]? = (ints (rng n))[i]?
    by_cases h : i < n
    · rw [ints_at _ i (by rw [rng_len]; exact h), gi_rng _ i h]
      simp [encF, h]
    · rw [List.getElem?_eq_none (by simp; omega), List.getElem?_eq_none (by rw [ints_len, rng_len]; omega)]
theorem starL_perm (n : Nat) : (starL n).Perm (List.finRange (n + 1)) := by
  have h : (List.finRange (n + 1)).drop n = [Fin.last n] := by
    apply List.ext_getElem?
    intro i
    rw [List.getElem?_drop]
    cases i with
    | zero => simp [Fin.last]
    | succ i => rw [List.getElem?_eq_none (by simp), List.getElem?_eq_none (by simp)]
  have e := List.take_append_drop n (List.finRange (n + 1))
  rw [h] at e
  have hp : (List.finRange (n + 1)).take n ++ [Fin.last n] = List.finRange (n + 1) := e
  unfold starL
  exact (List.perm_append_singleton _ _).symm.trans (List.Perm.of_eq hp)

set_option maxHeartbeats 800000 in
theorem sortL_any (g cap base n t2 p gL gR gB cL cR cB B : Nat) (w : World) (hn : n ≤ 15) (hbg : B ≤ g) (ht : t2 < B) (hBw : B ≤ w.heap.size) (hP : PR w B p n gL gR gB cL cR cB) (h0 : w.cell? ⟨t2, 0, none⟩ = some (.pointer (some ⟨p, 0, none⟩)))
    (ho : Own w base 3 (.slice (some ⟨g, 0, none⟩) (n + 1) cap) (ints (nlist n n))) :
    Calls Tryd.prog 24 #[.slice (some ⟨g, 0, none⟩) (n + 1) cap, .func (.func 25) #[] #[.pointer (some ⟨t2, 0, none⟩)]] w fun e w' =>
      e = .returned (.tuple #[]) ∧ Own w' base 3 (.slice (some ⟨g, 0, none⟩) (n + 1) cap) (ints (rng (n + 1))) ∧ w.grownBy w' (some g) := by
  have hsl : (starL n).length = n + 1 := by rw [(starL_perm n).length_eq, List.length_finRange]
  have ho' : w.ownsRow base 3 1 (.slice (some ⟨g, 0, none⟩) (n + 1) cap) (n + 1) ((starL n).map (encF n)) := by
    have := ho
    unfold Own at this
    rw [ints_len, nlist_len] at this
    rw [ints_star]
    exact this
  obtain ⟨g', cap', e0, hb, hlt, h1, h2, h3, hH⟩ := Lib.holds_of_ownsRow ho' (by simp)
  cases e0
  have hne : ∀ k, k < B → k ≠ g := fun k hk => by omega
  have hcmp : CmpLays1 Tryd.prog 25 #[.pointer (some ⟨t2, 0, none⟩)] (encF n) (fun x y => Lib.compareInt ((x.val : Nat) : Int) ((y.val : Nat) : Int)) g 0 (starL n).toArray.size w := by
    intro m os dk _ x y
    have hx : x.val ≤ n := by omega
    have hy : y.val ≤ n := by omega
    refine (closure_any t2 p gB n cB x.val y.val (sortWorld (encF n) w g 0 m dk os) hx hy hP.bc (sortWorld_cell h0 (hne _ ht)) (sortWorld_cell hP.c2 (hne _ hP.pl)) (sortWorld_cell (hP.born _ hx) (hne _ hP.bl)) (sortWorld_cell (hP.born _ hy) (hne _ hP.bl))).mono ?_
    rintro e w' ⟨he, q, hq⟩
    exact ⟨he, q, #[], by rw [hq, grow_empty]⟩
  have hO : SWO (ltOf fun x y : Fin (n + 1) => Lib.compareInt ((x.val : Nat) : Int) ((y.val : Nat) : Int)) := by
    have key : ∀ x y : Fin (n + 1), ltOf (fun x y : Fin (n + 1) => Lib.compareInt ((x.val : Nat) : Int) ((y.val : Nat) : Int)) x y = decide (x.val < y.val) := fun x y => by
      show decide (Lib.compareInt _ _ < 0) = _
      rw [cmpI_neg]
      exact decide_eq_decide.2 (by omega)
    refine ⟨fun x => by rw [key]; simp, fun x y z h k => ?_, fun x y z h k => ?_⟩
    · rw [key, decide_eq_true_iff] at h k ⊢; omega
    · rw [key, decide_eq_false_iff_not] at h k ⊢; omega
  have hsz : (starL n).toArray.size = n + 1 := by simpa using hsl
  have hcall := Any.slices_SortFunc Tryd.lays_f24 (encF n) (fun x => rfl) (fun x y => Lib.compareInt ((x.val : Nat) : Int) ((y.val : Nat) : Int)) hO 25 #[.pointer (some ⟨t2, 0, none⟩)] g 0 cap (starL n).toArray w
    (fun args w => enters_of Tryd.func25 (by kernel_rfl) rfl args w) hcmp hH hlt (by omega)
  rw [hsz] at hcall
  refine hcall.mono ?_
  rintro e w' ⟨he, d', q, os, ⟨p1, p2, p3⟩, hs, rfl⟩
  have hd' : d'.size = n + 1 := by rw [p1, hsz]
  have hperm : d'.toList.Perm (starL n) := by
    have e1 : d'.extract 0 (n + 1) = d' := by have h := @Array.extract_size _ d'; rw [hd'] at h; exact h
    have e2 : (starL n).toArray.extract 0 (n + 1) = (starL n).toArray := by have h := @Array.extract_size _ (starL n).toArray; rw [hsz] at h; exact h
    rw [e1, e2] at p3
    exact p3
  have hall : d'.toList = List.finRange (n + 1) := by
    refine sorted_all (hperm.trans (starL_perm n)) ?_
    rw [List.pairwise_iff_getElem]
    intro i j hi hj hij
    rw [Array.length_toList] at hi hj
    have := hs i j (Nat.zero_le _) hij (by omega)
    rw [getElem!_pos d' j (by omega), getElem!_pos d' i (by omega)] at this
    have this : decide (Lib.compareInt _ _ < 0) = false := this
    rw [cmpI_neg, decide_eq_false_iff_not] at this
    simp only [Array.getElem_toList]
    omega
  refine ⟨he, ?_, ⟨rfl, rfl, rfl, sortWorld_size, fun k hk hne => sortWorld_block hk fun e => hne (by rw [e])⟩⟩
  have h5 := Lib.ownsRow_putRow (q := q) (k := n + 1) (ys := d'.toList) ho' (by rw [Array.length_toList, hd']) (Nat.le_refl _)
  have e3 : d'.toList.take (n + 1) = d'.toList := List.take_of_length_le (by rw [Array.length_toList, hd']; exact Nat.le_refl _)
  rw [e3] at h5
  have h6 : World.ownsRow (sortWorld (encF n) w g 0 q d' os) base 3 1 (.slice (some ⟨g, 0, none⟩) (n + 1) cap) (n + 1) (d'.toList.map (encF n)) := by
    refine ownsRow_below h5 (B := (putRow (encF n) (Sort.ahead w q) g 0 d').heap.size) ?_ fun k hk => (h5.lt k hk).2
    exact ⟨rfl, rfl, rfl, by show _ ≤ (_ ++ os).size; simp, fun k hk => by show (_ ++ os)[k]? = _; rw [Array.getElem?_append_left hk]⟩
  rw [hall, ints_fin] at h6
  unfold Own
  rw [ints_len, rng_len]
  exact h6
end Go.Proofs.YtdjchjmmpjofcaaDoor
