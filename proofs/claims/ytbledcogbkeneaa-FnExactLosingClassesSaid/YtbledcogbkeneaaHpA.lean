/- Several texts in one: XCmpH XRSort XCompF XHeap1 XHm0 XHmI. Conditions: none. -/
import Derived.Test.YtbledcogbkeneaaFp
import Derived.Test.YtbledcogbkeneaaShelfF
import Derived.Lib.OwnBridge
import Derived.Lib.SliceRun
import Derived.Deep.LoopGhost
import Derived.Deep.QuietTactic
import Derived.Test.YtbledcogbkeneaaMoves3
namespace Go.Proofs.Ytbledcogbkeneaa
open Go.RowKit
set_option linter.unusedVariables false

def cmpH (a b : List Int) : Int := if a.length = b.length then cmpL a b else if a.length < b.length then -1 else 1

theorem cmpI_any (x y : Int) (w : World) : Calls Try.prog 103 #[.int .i64 x, .int .i64 y] w fun e w' => e = .returned (.int .i64 (Lib.compareInt x y)) ∧ w' = w := Any.cmp_Compare_int Try.lays122 x y w
theorem cmpI_eq {x y : Int} (h : x = y) : Lib.compareInt x y = 0 := by unfold Lib.compareInt; rw [if_neg (show ¬ x < y by omega), if_neg (show ¬ x > y by omega)]
theorem cmpI_lt {x y : Int} (h : x < y) : Lib.compareInt x y = -1 := by unfold Lib.compareInt; rw [if_pos h]
theorem cmpI_gt {x y : Int} (h : y < x) : Lib.compareInt x y = 1 := by unfold Lib.compareInt; rw [if_neg (show ¬ x < y by omega), if_pos h]

set_option maxHeartbeats 800000 in
theorem sCompare_any (A A' : Option Addr) (c c' : Nat) (xs ys : List Int) (w : World) (B : Nat) (h : RdI w B A c xs) (h' : RdI w B A' c' ys) :
    Calls Try.prog 104 #[.slice A xs.length c, .slice A' ys.length c'] w fun e w' => e = .returned (.int .i64 (cmpL xs ys)) ∧ w' = w := by
  have h1 := h.len
  have h2 := h.max
  have h3 := h'.len
  have h4 := h'.max
  go_enter Try.func104, Try.ntmps104
  go_wp2
  go_loop [11] (fun i => ∃ k : Nat, i = .int .i64 k ∧ k ≤ xs.length ∧ k ≤ ys.length ∧ (∀ j, j < k → gi xs j = gi ys j)) (fun i => xs.length - (intOf i).toNat)
  case atStart => exact ⟨0, rfl, by omega, by omega, fun j hj => absurd hj (by omega)⟩
  case round =>
    obtain ⟨k, rfl, hk, hk', hs⟩ := hrel
    have HS := Lib.hid hs; clear hs
    by_cases hlx : k < xs.length
    · obtain ⟨b, o, rfl, hbB, hc⟩ := h.at (j := k) hlx
      have hc1 := hc k hlx
      clear hc
      by_cases hly : k < ys.length
      · obtain ⟨b', o', rfl, hbB', hc'⟩ := h'.at (j := k) hly
        have hc2 := hc' k hly
        clear hc'
        by_cases he : gi xs k = gi ys k
        · have ht : (Lib.compareInt (gi xs k) (gi ys k) != 0) = false := by rw [cmpI_eq he]; rfl
          have HE := Lib.hid he; clear he
          go_wp2_with (go_at_call 103; (with_reducible refine (cmpI_any _ _ _).mono ?_); rintro e w1 ⟨rfl, rfl⟩)
          go_round
          case rel => exact ⟨k + 1, by go_num, by omega, by omega, fun j hj => if hjk : j = k then by subst hjk; exact HE.out else HS.out j (by omega)⟩
          case measure => simp [intOf]; omega
        · have HE : Hid (cmpL xs ys = Lib.compareInt (gi xs k) (gi ys k)) := by
            show _ = _
            rw [cmpL_at xs ys k hlx hly HS.out he]
            unfold Lib.compareInt
            split
            · rfl
            · rw [if_pos (by omega)]
          have ht : (Lib.compareInt (gi xs k) (gi ys k) != 0) = true := by
            by_cases hl : gi xs k < gi ys k
            · rw [cmpI_lt hl]; rfl
            · rw [cmpI_gt (by omega)]; rfl
          clear he
          go_wp2_with (go_at_call 103; (with_reducible refine (cmpI_any _ _ _).mono ?_); rintro e w1 ⟨rfl, rfl⟩)
          go_ret
          exact ⟨ret_i64 HE.out.symm, rfl⟩
      · have hky : k = ys.length := by omega
        have HE : Hid (cmpL xs ys = 1) := by
          show _ = _
          rw [cmpL_end xs ys k hk hk' (by omega) HS.out, if_neg (by omega), if_pos (by omega)]
        have hge : (ys.length : Int) ≤ (k : Int) := by omega
        clear hky
        go_wp2
        go_ret
        exact ⟨ret_i64 HE.out.symm, rfl⟩
    · have hkx : k = xs.length := by omega
      have HE : Hid (cmpL xs ys = if xs.length < ys.length then -1 else 0) := by
        show _ = _
        rw [cmpL_end xs ys k hk hk' (by omega) HS.out]
        by_cases hl : xs.length < ys.length
        · rw [if_pos hl, if_pos hl]
        · rw [if_neg hl, if_neg hl, if_neg (by omega)]
      by_cases hl : xs.length < ys.length
      · rw [if_pos hl] at HE
        clear hkx
        go_wp2
        go_ret
        exact ⟨ret_i64 HE.out.symm, rfl⟩
      · rw [if_neg hl] at HE
        clear hkx
        go_wp2
        go_ret
        exact ⟨ret_i64 HE.out.symm, rfl⟩

set_option maxHeartbeats 400000 in
/-- cmp.Or of two numbers. -/
theorem or2_any (g : Nat) (a b : Int) (w : World) (h : Blk w g 3 #[.int .i64 a, .int .i64 b]) :
    Calls Try.prog 102 #[.slice (some ⟨g, 0, none⟩) 2 2] w fun e w' => e = .returned (.int .i64 (if a = 0 then b else a)) ∧ w' = w := by
  have c0 : w.cell? ⟨g, 0, none⟩ = some (.int .i64 a) := h.cell 0
  have c1 : w.cell? ⟨g, 1, none⟩ = some (.int .i64 b) := h.cell 1
  clear h
  obtain ⟨v, hv⟩ : ∃ v, v = if a = 0 then b else a := ⟨_, rfl⟩
  have HV := Lib.hid hv
  rw [← hv]
  clear hv
  go_enter Try.func102, Try.ntmps102
  go_wp2
  go_loop [8] (fun i => (i = .int .i64 0) ∨ (i = .int .i64 1 ∧ a = 0) ∨ (i = .int .i64 2 ∧ a = 0 ∧ b = 0)) (fun i => 2 - (intOf i).toNat)
  case atStart => exact .inl rfl
  case round =>
    rcases hrel with rfl | ⟨rfl, ha⟩ | ⟨rfl, ha, hb⟩
    · by_cases ha : a = 0
      · have ht : (a != 0) = false := by simp [ha]
        have HA := Lib.hid ha; clear ha
        go_wp2
        go_round
        case rel => exact .inr (.inl ⟨by go_num, HA.out⟩)
        case measure => simp [intOf]
      · have ht : (a != 0) = true := by simp [ha]
        have HA := Lib.hid ha; clear ha
        go_wp2
        go_ret
        exact ⟨ret_i64 (by rw [HV.out, if_neg HA.out]), rfl⟩
    · have HA := Lib.hid ha; clear ha
      by_cases hb : b = 0
      · have ht : (b != 0) = false := by simp [hb]
        have HB := Lib.hid hb; clear hb
        go_wp2
        go_round
        case rel => exact .inr (.inr ⟨by go_num, HA.out, HB.out⟩)
        case measure => simp [intOf]
      · have ht : (b != 0) = true := by simp [hb]
        clear hb
        go_wp2
        go_ret
        exact ⟨ret_i64 (by rw [HV.out, if_pos HA.out]), rfl⟩
    · have HE : Hid (v = 0) := by show _ = _; rw [HV.out, if_pos ha, hb]
      clear ha hb
      go_wp2
      go_ret
      exact ⟨ret_i64 HE.out.symm, rfl⟩

set_option maxHeartbeats 400000 in
theorem compare_any (A A' : Option Addr) (c c' : Nat) (xs ys : List Int) (w : World) (B : Nat) (hB : B ≤ w.heap.size) (h : RdI w B A c xs) (h' : RdI w B A' c' ys) :
    Calls Try.prog 87 #[.slice A xs.length c, .slice A' ys.length c'] w fun e w' => e = .returned (.int .i64 (cmpH xs ys)) ∧ Gr w w' := by
  have h1 := h.len
  have h2 := h.max
  have h3 := h'.len
  have h4 := h'.max
  have HE : Hid (cmpH xs ys = if Lib.compareInt xs.length ys.length = 0 then cmpL xs ys else Lib.compareInt xs.length ys.length) := by
    show _ = _
    unfold cmpH
    rcases Nat.lt_trichotomy xs.length ys.length with hl | hl | hl
    · rw [if_neg (by omega), if_pos hl, cmpI_lt (by omega), if_neg (by decide)]
    · rw [if_pos hl, cmpI_eq (by omega), if_pos rfl]
    · rw [if_neg (by omega), if_neg (by omega), cmpI_gt (by omega), if_neg (by decide)]
  have HR := Lib.hid h; have HR' := Lib.hid h'
  clear h h'
  go_enter Try.func87, Try.ntmps87
  go_wp2_with (first
    | (go_at_call 103; (with_reducible refine (cmpI_any _ _ _).mono ?_); rintro e w1 ⟨rfl, rfl⟩)
    | (go_at_call 104; (with_reducible refine (sCompare_any _ _ _ _ xs ys _ B HR.out HR'.out).mono ?_); rintro e w2 ⟨rfl, rfl⟩)
    | (go_at_call 102; (with_reducible refine (or2_any _ _ _ _ (Blk.new _ _ _)).mono ?_); rintro e w3 ⟨rfl, rfl⟩))
  all_goals
    go_ret
    refine ⟨ret_i64 ?_, (Gr.refl _).alloc _⟩
    rw [HE.out]
    first
      | rw [if_pos (by assumption)]
      | rw [if_neg (by assumption)]
end Go.Proofs.Ytbledcogbkeneaa
namespace Go.Proofs.Ytbledcogbkeneaa
open Go.RowKit Go.Sort
set_option linter.unusedVariables false

theorem cmpH_lt (a b : List Int) : decide (cmpH a b < 0) = aheadB a b := by
  unfold cmpH aheadB
  by_cases h : a.length = b.length
  · rw [if_pos h, if_pos h]
  · rw [if_neg h, if_neg h]
    by_cases k : a.length < b.length
    · rw [if_pos k]; simp [k]
    · rw [if_neg k]; simp [k]
theorem ahead_nt {a b c : List Int} (h : aheadB a b = false) (k : aheadB b c = false) : aheadB a c = false := by
  cases hac : aheadB a c
  · rfl
  · cases hba : aheadB b a
    · rw [ahead_tri h hba] at hac
      rw [hac] at k; cases k
    · rw [ahead_trans hba hac] at k; cases k

/-- A row with what it holds, read apart from block g. -/
structure HRow (w : World) (g : Nat) where
  v : Value
  xs : List Int
  rd : RdX w g v xs
instance (w : World) (g : Nat) : Inhabited (HRow w g) := ⟨⟨.slice none 0 0, [], ⟨none, 0, rfl, Rd.nil, fun a h => by cases h⟩⟩⟩

theorem sortWorld_block {α : Type} [Inhabited α] {enc : α → Value} {w : World} {g m : Nat} {dk : Array α} {os : Array Obj} {k : Nat} (hk : k < w.heap.size) (hne : k ≠ g) : (sortWorld enc w g 0 m dk os).heap[k]? = w.heap[k]? := by
  unfold sortWorld
  show ((putRow enc (Sort.ahead w m) g 0 dk).heap ++ os)[k]? = _
  rw [Array.getElem?_append_left (by simpa [putRow, mapBlock, Sort.ahead] using hk)]
  simp [putRow, mapBlock, Sort.ahead, Array.getElem?_modify, Ne.symm hne]
theorem sortWorld_size {α : Type} [Inhabited α] {enc : α → Value} {w : World} {g m : Nat} {dk : Array α} {os : Array Obj} : w.heap.size ≤ (sortWorld enc w g 0 m dk os).heap.size := by
  unfold sortWorld
  show _ ≤ ((putRow enc (Sort.ahead w m) g 0 dk).heap ++ os).size
  simp [putRow, mapBlock, Sort.ahead]

set_option maxHeartbeats 800000 in
theorem sortRows_any (g cap base : Nat) (L : List (Value × List Int)) (w : World) (hR : ∀ x ∈ L, RdX w g x.1 x.2) (hn : L.length ≤ 1000000)
    (ho : Own w base 22 (.slice (some ⟨g, 0, none⟩) L.length cap) (L.map (·.1))) :
    Calls Try.prog 86 #[.slice (some ⟨g, 0, none⟩) L.length cap, .func (.func 87) #[] #[]] w fun e w' =>
      e = .returned (.tuple #[]) ∧ ∃ M : List (Value × List Int), M.Perm L ∧ (M.map (·.2)).Pairwise (fun a b => aheadB b a = false) ∧ Own w' base 22 (.slice (some ⟨g, 0, none⟩) L.length cap) (M.map (·.1)) ∧ w.grownBy w' (some g) := by
  obtain ⟨D, hD⟩ : ∃ D : List (HRow w g), D.map (fun r => (r.v, r.xs)) = L := by
    clear ho hn
    induction L with
    | nil => exact ⟨[], rfl⟩
    | cons x xs ih =>
      obtain ⟨D, hD⟩ := ih fun y hy => hR y (List.mem_cons_of_mem _ hy)
      exact ⟨⟨x.1, x.2, hR x List.mem_cons_self⟩ :: D, by simp [hD]⟩
  have hlen : D.length = L.length := by rw [← hD, List.length_map]
  have hv : L.map (·.1) = D.map (·.v) := by rw [← hD, List.map_map]; rfl
  have ho' : w.ownsRow base 22 1 (.slice (some ⟨g, 0, none⟩) L.length cap) L.length (D.map (·.v)) := by
    have := ho; unfold Own at this; rw [hv, List.length_map, hlen] at this; exact this
  obtain ⟨g', cap', e0, hb, hlt, h1, h2, h3, hH⟩ := Lib.holds_of_ownsRow ho' (by simp)
  cases e0
  have hcmp : CmpLays1 Try.prog 87 #[] (HRow.v (w := w) (g := g)) (fun x y => cmpH x.xs y.xs) g 0 D.toArray.size w := by
    intro m os dk _ x y
    obtain ⟨A, c, e1, r1, n1⟩ := x.rd
    obtain ⟨A', c', e2, r2, n2⟩ := y.rd
    rw [e1, e2]
    refine (compare_any A A' c c' x.xs y.xs (sortWorld HRow.v w g 0 m dk os) w.heap.size sortWorld_size (r1.keepX n1 fun k hk hne => sortWorld_block hk hne) (r2.keepX n2 fun k hk hne => sortWorld_block hk hne)).mono ?_
    rintro e w' ⟨he, hg⟩
    exact ⟨he, hg.form⟩
  have hO : SWO (ltOf fun x y : HRow w g => cmpH x.xs y.xs) :=
    ⟨fun x => by show decide (cmpH _ _ < 0) = _; rw [cmpH_lt]; exact ahead_irrefl _,
     fun x y z h k => by
       have h : decide (cmpH _ _ < 0) = true := h
       have k : decide (cmpH _ _ < 0) = true := k
       show decide (cmpH _ _ < 0) = _
       rw [cmpH_lt] at h k ⊢
       exact ahead_trans h k,
     fun x y z h k => by
       have h : decide (cmpH _ _ < 0) = false := h
       have k : decide (cmpH _ _ < 0) = false := k
       show decide (cmpH _ _ < 0) = _
       rw [cmpH_lt] at h k ⊢
       exact ahead_nt h k⟩
  have hsz : D.toArray.size = L.length := by simpa using hlen
  have hcall := Any.slices_SortFunc Try.lays_f86 (HRow.v (w := w) (g := g)) (fun x => x.rd.oneCell) (fun x y => cmpH x.xs y.xs) hO 87 #[] g 0 cap D.toArray w
    (fun args w => enters_of Try.func87 (by kernel_rfl) rfl args w) hcmp hH hlt (by omega)
  rw [hsz] at hcall
  refine hcall.mono ?_
  rintro e w' ⟨he, d', n, os, ⟨p1, p2, p3⟩, hs, rfl⟩
  have hd' : d'.size = L.length := by rw [p1, hsz]
  have hperm : d'.toList.Perm D := by
    have e1 : d'.extract 0 L.length = d' := by rw [← hd']; exact Array.extract_size
    have e2 : D.toArray.extract 0 L.length = D.toArray := by rw [← hsz]; exact Array.extract_size
    rw [e1, e2] at p3
    exact p3
  refine ⟨he, d'.toList.map (fun r => (r.v, r.xs)), ?_, ?_, ?_, ?_⟩
  · rw [← hD]; exact hperm.map _
  · rw [List.map_map, List.pairwise_map, List.pairwise_iff_getElem]
    intro i j hi hj hij
    rw [Array.length_toList] at hi hj
    have := hs i j (Nat.zero_le _) hij (by omega)
    have := this
    rw [getElem!_pos d' j (by omega), getElem!_pos d' i (by omega)] at this
    have this : decide (cmpH _ _ < 0) = false := this
    rw [cmpH_lt] at this
    exact this
  · have h5 := Lib.ownsRow_putRow (q := n) (k := L.length) (ys := d'.toList) ho' (by rw [Array.length_toList, hd']) (Nat.le_refl _)
    have e3 : d'.toList.take L.length = d'.toList := by rw [← hd', ← Array.length_toList, List.take_length]
    rw [e3] at h5
    have h6 : World.ownsRow (sortWorld HRow.v w g 0 n d' os) base 22 1 (.slice (some ⟨g, 0, none⟩) L.length cap) L.length (d'.toList.map (·.v)) := by
      refine ownsRow_below h5 (B := (putRow (HRow.v (w := w) (g := g)) (Sort.ahead w n) g 0 d').heap.size) ?_ fun k hk => (h5.lt k hk).2
      exact ⟨rfl, rfl, rfl, by show _ ≤ (_ ++ os).size; simp, fun k hk => by show (_ ++ os)[k]? = _; rw [Array.getElem?_append_left hk]⟩
    have e4 : (d'.toList.map fun r => (r.v, r.xs)).map (·.1) = d'.toList.map (·.v) := by rw [List.map_map]; rfl
    have e5 : (d'.toList.map (·.v)).length = L.length := by rw [List.length_map, Array.length_toList, hd']
    rw [e4]
    unfold Own
    rw [e5]
    exact h6
  · exact ⟨rfl, rfl, rfl, sortWorld_size, fun k hk hne => sortWorld_block hk fun e => hne (by rw [e])⟩
end Go.Proofs.Ytbledcogbkeneaa
namespace Go.Proofs.Ytbledcogbkeneaa
open Go.RowKit
set_option linter.unusedVariables false

set_option maxHeartbeats 800000 in
theorem sEqual_any (A A' : Option Addr) (c c' : Nat) (xs ys : List Int) (w : World) (B : Nat) (h : RdI w B A c xs) (h' : RdI w B A' c' ys) :
    Calls Try.prog 89 #[.slice A xs.length c, .slice A' ys.length c'] w fun e w' => e = .returned (.bool (decide (xs = ys))) ∧ ∃ m, w' = w.drewN m := by
  have h1 := h.len
  have h2 := h.max
  have h3 := h'.len
  have h4 := h'.max
  by_cases hl : xs.length = ys.length
  · have hne : ((xs.length : Int) != (ys.length : Int)) = false := by simp [hl]
    have HL := Lib.hid hl; clear hl
    go_enter Try.func89, Try.ntmps89
    go_wp2
    go_loopw [13] (fun i wr => ∃ k m : Nat, i = .int .i64 k ∧ k ≤ xs.length ∧ (∀ j, j < k → gi xs j = gi ys j) ∧ wr = w.drewN m)
      (fun i _ => xs.length - (intOf i).toNat)
    case atStart => exact ⟨0, 0, rfl, by omega, fun j hj => absurd hj (by omega), rfl⟩
    case round =>
      obtain ⟨k, m, rfl, hk, hs, hw⟩ := hrel
      have HS := Lib.hid hs; clear hs
      by_cases hlt : k < xs.length
      · have hlt' : k < ys.length := by rw [← HL.out]; exact hlt
        obtain ⟨b, o, rfl, hbB, hc⟩ := h.at (j := k) hlt
        obtain ⟨b', o', rfl, hbB', hc'⟩ := h'.at (j := k) hlt'
        have hc1 : wr.cell? ⟨b, o + k, none⟩ = some (.int .i64 (gi xs k)) := by rw [hw]; exact hc k hlt
        have hc2 : wr.cell? ⟨b', o' + k, none⟩ = some (.int .i64 (gi ys k)) := by rw [hw]; exact hc' k hlt'
        have HW := Lib.hid hw
        clear hc hc' hw
        by_cases he : gi xs k = gi ys k
        · have ht : (gi xs k != gi ys k) = false := by simp [he]
          have HE := Lib.hid he; clear he
          go_wp2
          go_quiet (fail)
          go_wp2
          go_roundw
          case rel => exact ⟨k + 1, _, by go_num, by omega, fun j hj => if hjk : j = k then by subst hjk; exact HE.out else HS.out j (by omega), by rw [HW.out]; exact World.drewN_drewN _ _ _⟩
          case measure => simp [intOf]; omega
        · have ht : (gi xs k != gi ys k) = true := by simp [he]
          have HE := Lib.hid he; clear he
          go_wp2
          go_quiet (fail)
          go_wp2
          go_ret
          refine ⟨ret_bool ?_, _, by rw [HW.out]; exact World.drewN_drewN _ _ _⟩
          rw [Bool.false_eq, decide_eq_false_iff_not]
          intro hxy
          exact HE.out (by rw [hxy])
      · have HW := Lib.hid hw
        clear hw
        go_wp2
        go_ret
        refine ⟨ret_bool ?_, m, HW.out⟩
        rw [Bool.true_eq, decide_eq_true_eq]
        refine List.ext_getElem HL.out fun j hj hj' => ?_
        have := HS.out j (by omega)
        simpa [gi, hj, hj'] using this
  · have hne : ((xs.length : Int) != (ys.length : Int)) = true := by simp; omega
    have hxy : ¬ xs = ys := fun h => hl (by rw [h])
    go_enter Try.func89, Try.ntmps89
    go_wp2
    go_ret
    exact ⟨by simp [hxy], 0, rfl⟩

/-- The i-th pair. -/
def gpr (M : List (Value × List Int)) (i : Nat) : Value × List Int := M.getD i (.slice none 0 0, [])
theorem gpr_lt {M : List (Value × List Int)} {i : Nat} (h : i < M.length) : gpr M i = M[i] := by simp [gpr, h]
theorem gpr_mem {M : List (Value × List Int)} {i : Nat} (h : i < M.length) : gpr M i ∈ M := by rw [gpr_lt h]; exact List.getElem_mem h
/-- What is kept of the first j: what isn't as its neighbour ahead. -/
def kp (M : List (Value × List Int)) : Nat → List (Value × List Int)
  | 0 => []
  | j + 1 => if j = 0 ∨ (gpr M j).2 ≠ (gpr M (j - 1)).2 then kp M j ++ [gpr M j] else kp M j
theorem kp_len (M : List (Value × List Int)) (j : Nat) : (kp M j).length ≤ j := by
  induction j with
  | zero => exact Nat.le_refl _
  | succ j ih =>
    unfold kp
    split
    · rw [List.length_append, List.length_singleton]; omega
    · omega
theorem take_gpr (M : List (Value × List Int)) (j : Nat) (h : j < M.length) : M.take (j + 1) = M.take j ++ [gpr M j] := by
  rw [List.take_add_one, List.getElem?_eq_getElem h, gpr_lt h]; rfl
theorem kp_sub (M : List (Value × List Int)) (j : Nat) (h : j ≤ M.length) : (kp M j).Sublist (M.take j) := by
  induction j with
  | zero => exact List.Sublist.refl _
  | succ j ih =>
    rw [take_gpr M j h]
    unfold kp
    split
    · exact (ih (by omega)).append (List.Sublist.refl _)
    · exact (ih (by omega)).trans (List.sublist_append_left _ _)
theorem kp_all (M : List (Value × List Int)) (j : Nat) (h : j ≤ M.length) (hn : ∀ i, 0 < i → i < j → (gpr M i).2 ≠ (gpr M (i - 1)).2) : kp M j = M.take j := by
  induction j with
  | zero => rfl
  | succ j ih =>
    rw [take_gpr M j h]
    unfold kp
    rw [if_pos, ih (by omega) fun i h0 hi => hn i h0 (by omega)]
    rcases Nat.eq_zero_or_pos j with e | e
    · exact .inl e
    · exact .inr (hn j e (Nat.lt_succ_self _))
theorem kp_mem (M : List (Value × List Int)) (j : Nat) (h : j ≤ M.length) (x : List Int) : x ∈ (kp M j).map (·.2) ↔ x ∈ (M.take j).map (·.2) := by
  induction j with
  | zero => exact Iff.rfl
  | succ j ih =>
    have ih := ih (by omega)
    rw [take_gpr M j h]
    unfold kp
    split
    · simp only [List.map_append, List.mem_append, ih]
    · rename_i hc
      simp only [List.map_append, List.mem_append, ih]
      constructor
      · exact fun h => .inl h
      · rintro (h | h)
        · exact h
        · have h0 : 0 < j := by omega
          have he : (gpr M j).2 = (gpr M (j - 1)).2 := by
            apply Classical.byContradiction
            intro hne
            exact hc (.inr hne)
          simp only [List.map_cons, List.map_nil, List.mem_singleton] at h
          rw [h, he, gpr_lt (by omega)]
          refine List.mem_map.2 ⟨_, ?_, rfl⟩
          rw [List.mem_take_iff_getElem]
          exact ⟨j - 1, by omega, rfl⟩
theorem kp_ris (M : List (Value × List Int)) (hs : (M.map (·.2)).Pairwise (fun a b => aheadB b a = false)) (j : Nat) (h : j ≤ M.length) : Sorted ((kp M j).map (·.2)) := by
  rw [List.pairwise_map, List.pairwise_iff_getElem] at hs
  have hle : ∀ i k, i ≤ k → k < M.length → aheadB (gpr M k).2 (gpr M i).2 = false := fun i k hik hk => by
    rcases Nat.eq_or_lt_of_le hik with e | e
    · rw [e]; exact ahead_irrefl _
    · rw [gpr_lt hk, gpr_lt (by omega)]
      exact hs i k (by omega) hk e
  induction j with
  | zero => exact List.Pairwise.nil
  | succ j ih =>
    have ih := ih (by omega)
    unfold kp
    split
    · rename_i hc
      unfold Sorted at ih ⊢
      rw [List.map_append, List.pairwise_append]
      refine ⟨ih, by simp, fun a ha b hb => ?_⟩
      simp only [List.map_cons, List.map_nil, List.mem_singleton] at hb
      subst hb
      rw [kp_mem M j (by omega)] at ha
      obtain ⟨x, hx, rfl⟩ := List.mem_map.1 ha
      rw [List.mem_take_iff_getElem] at hx
      obtain ⟨i, hi, rfl⟩ := hx
      have hij : i < j := by omega
      have hiM : i < M.length := by omega
      rw [← gpr_lt hiM]
      have hne : (gpr M j).2 ≠ (gpr M (j - 1)).2 := by
        rcases hc with e | e
        · omega
        · exact e
      have h1 : aheadB (gpr M (j - 1)).2 (gpr M j).2 = true := by
        cases hk : aheadB (gpr M (j - 1)).2 (gpr M j).2
        · exact absurd (ahead_tri (hle (j - 1) j (by omega) (by omega)) hk) hne
        · rfl
      cases hk : aheadB (gpr M i).2 (gpr M j).2
      · have h2 := hle i (j - 1) (by omega) (by omega)
        have h3 := ahead_nt h2 hk
        rw [h1] at h3; cases h3
      · rfl
    · exact ih

/-- A row's cells written on: what is left of the block. -/
theorem blk_setCells {g : Nat} {E : TypeId} : ∀ (vs : List Value) (o : Nat) (w : World) (cur : Array Value), Blk w g E cur → ∃ cur', Blk (w.setCells g o vs) g E cur' ∧ cur'.size = cur.size ∧ ∀ i, i < o → cur'[i]? = cur[i]?
  | [], _, w, cur, h => ⟨cur, h, rfl, fun _ _ => rfl⟩
  | v :: r, o, w, cur, h => by
    obtain ⟨cur', h1, h2, h3⟩ := blk_setCells r (o + 1) _ _ (h.set o v)
    refine ⟨cur', h1, by rw [h2, Array.size_setIfInBounds], fun i hi => ?_⟩
    rw [h3 i (by omega), Array.getElem?_setIfInBounds, if_neg (by omega)]
theorem grown_setCell {w w' : World} {g : Nat} (h : w.grownBy w' (some g)) (o : Nat) (v : Value) : w.grownBy (w'.setCell ⟨g, o, none⟩ v) (some g) :=
  ⟨h.os, h.tape, h.output, by simpa using h.size, fun k hk hne => by rw [Below.heap_setCell _ _ _ _ (fun e => hne (by rw [e]))]; exact h.block k hk hne⟩
theorem grown_setCells {w : World} {g : Nat} : ∀ (vs : List Value) (o : Nat) (w' : World), w.grownBy w' (some g) → w.grownBy (w'.setCells g o vs) (some g)
  | [], _, _, h => h
  | v :: r, o, w', h => grown_setCells r (o + 1) _ (grown_setCell h o v)
theorem grefl' (w : World) (row : Option Nat) : w.grownBy w row := ⟨rfl, rfl, rfl, Nat.le_refl _, fun _ _ _ => rfl⟩
theorem grown_drewN {w w' : World} {r : Option Nat} (h : w.grownBy w' r) (n : Nat) : w.grownBy (w'.drewN n) r := ⟨h.os, h.tape, h.output, h.size, h.block⟩
theorem Own.of_cells {w : World} {base g n cap : Nat} {E : TypeId} {cur : Array Value} {cs : List Value} (hb : base ≤ g) (h : Blk w g E cur) (hn : n ≤ cap) (hm : cap ≤ maxLen) (hs : cur.size = cap) (hl : cs.length = n) (hc : ∀ i, i < n → cur[i]? = cs[i]?) :
    Own w base E (.slice (some ⟨g, 0, none⟩) n cap) cs := by
  unfold Own
  refine ⟨by omega, .inr ⟨g, cap, cur, by rw [hl], hb, h, by omega, hm, by omega, ?_⟩⟩
  apply List.ext_getElem?
  intro i
  rw [List.getElem?_take, Array.getElem?_toList]
  by_cases hi : i < n
  · rw [if_pos (by omega), hc i hi]
  · rw [if_neg (by omega), List.getElem?_eq_none (by omega)]

theorem kp_dup (M : List (Value × List Int)) (k : Nat) (hk : 0 < k) (hd : (gpr M k).2 = (gpr M (k - 1)).2) (j : Nat) (h : k < j) : (kp M j).length + 1 ≤ j := by
  induction j with
  | zero => omega
  | succ j ih =>
    rcases Nat.lt_or_ge k j with hkj | hkj
    · have := ih hkj
      unfold kp
      split
      · rw [List.length_append, List.length_singleton]; omega
      · omega
    · obtain rfl : k = j := by omega
      unfold kp
      rw [if_neg (by rintro (e | e); omega; exact e hd)]
      have := kp_len M k
      omega
theorem kp_same (M : List (Value × List Int)) (j : Nat) (h0 : 0 < j) (h : (gpr M j).2 = (gpr M (j - 1)).2) : kp M (j + 1) = kp M j := by
  show (if _ then _ else _) = _
  rw [if_neg (by rintro (e | e); omega; exact e h)]
theorem kp_next (M : List (Value × List Int)) (j : Nat) (h : (gpr M j).2 ≠ (gpr M (j - 1)).2) : kp M (j + 1) = kp M j ++ [gpr M j] := by
  show (if _ then _ else _) = _
  rw [if_pos (.inr h)]

set_option maxRecDepth 100000 in
set_option maxHeartbeats 1600000 in
theorem compactRows_any (g cap base : Nat) (M : List (Value × List Int)) (w : World) (hR : ∀ x ∈ M, RdX w g x.1 x.2) (hn : M.length ≤ 1000000)
    (ho : Own w base 22 (.slice (some ⟨g, 0, none⟩) M.length cap) (M.map (·.1))) :
    Calls Try.prog 88 #[.slice (some ⟨g, 0, none⟩) M.length cap, .func (.func 89) #[] #[]] w fun e w' =>
      e = .returned (.slice (some ⟨g, 0, none⟩) (kp M M.length).length cap) ∧ Own w' base 22 (.slice (some ⟨g, 0, none⟩) (kp M M.length).length cap) ((kp M M.length).map (·.1)) ∧ w.grownBy w' (some g) := by
  obtain ⟨hb, hnc, hmx, cur, hB, hsz, hat⟩ : base ≤ g ∧ M.length ≤ cap ∧ cap ≤ maxLen ∧ ∃ cur : Array Value, Blk w g 22 cur ∧ cur.size = cap ∧ ∀ i, i < M.length → cur[i]? = some (gpr M i).1 := by
    rcases ho.2 with ⟨e0, _⟩ | ⟨g', cap', cur, e0, hb, hg, hn', hm, hs, ht⟩
    · cases e0
    · injection e0 with e1 e2 e3
      injection e1 with e1
      injection e1 with e1
      subst e1 e3
      refine ⟨hb, by omega, hm, cur, hg, by omega, fun i hi => ?_⟩
      have e4 : (cur.toList.take ((M.map (·.1)).length * 1))[i]? = (M.map (·.1))[i]? := by rw [ht]
      rw [List.getElem?_take, List.length_map, if_pos (by omega), Array.getElem?_toList, List.getElem?_map, List.getElem?_eq_getElem hi] at e4
      rw [e4, gpr_lt hi]; rfl
  have HO := Lib.hid ho
  clear ho
  have hEQ : ∀ (W : World) (i j m : Nat), w.grownBy W (some g) → i < M.length → j < M.length →
      Calls Try.prog 89 #[(gpr M i).1, (gpr M j).1] (W.drewN m) fun e w' => e = .returned (.bool (decide ((gpr M i).2 = (gpr M j).2))) ∧ ∃ m', w' = (W.drewN m).drewN m' := fun W i j m hW hi hj => by
    have hg := grown_drewN hW m
    obtain ⟨A, c, e1, r1, _⟩ := (hR (gpr M i) (gpr_mem hi)).grown hg
    obtain ⟨A', c', e2, r2, _⟩ := (hR (gpr M j) (gpr_mem hj)).grown hg
    rw [e1, e2]
    exact sEqual_any A A' c c' _ _ _ _ r1 r2
  have HEQ := Lib.hid hEQ
  have hRs : ∀ i, i < M.length → ∃ A n c, (gpr M i).1 = .slice A n c := fun i hi => by
    obtain ⟨A, c, e1, _⟩ := hR (gpr M i) (gpr_mem hi)
    exact ⟨A, _, c, e1⟩
  have HRS := Lib.hid hRs
  clear hEQ hR hRs
  obtain ⟨n, hN⟩ : ∃ n, n = M.length := ⟨_, rfl⟩
  rw [← hN] at hn hnc hat HEQ HO HRS ⊢
  have HN := Lib.hid hN; clear hN
  obtain ⟨o, ho⟩ : ∃ o : Nat, o = 0 := ⟨_, rfl⟩
  have HOF := Lib.hid ho
  have hmx2 : cap ≤ 9223372036854775807 := by unfold maxLen at hmx; exact hmx
  have HAT := Lib.hid hat; have HSZ := Lib.hid hsz; have HB := Lib.hid hB; have HBG := Lib.hid hb; have HMX := Lib.hid hmx
  clear hat hsz hB hb hmx
  rw [← ho]
  clear ho
  by_cases h2 : n < 2
  · have HK : Hid (kp M n = M) := by
      show _ = _
      rw [kp_all M n (by rw [HN.out]; exact Nat.le_refl _) (fun i h0 hi => by omega), HN.out, List.take_length]
    go_enter Try.func88, Try.ntmps88
    go_wp2
    go_ret
    rw [HK.out, ← HN.out, HOF.out]
    exact ⟨rfl, HO.out, grefl' _ _⟩
  · go_enter Try.func88, Try.ntmps88
    go_wp2
    go_loopw [5] (fun s5 wr => ∃ k m : Nat, s5 = .int .i64 ((k : Int) + 1) ∧ k + 1 ≤ n ∧ (∀ i, 0 < i → i < k + 1 → (gpr M i).2 ≠ (gpr M (i - 1)).2) ∧ wr = w.drewN m) (fun i _ => n - (intOf i).toNat)
    case atStart => exact ⟨0, 0, rfl, by omega, fun i h0 hi => by omega, rfl⟩
    case round =>
      obtain ⟨k, m, rfl, hk, hall, hw⟩ := hrel
      have HALL := Lib.hid hall; have HW := Lib.hid hw
      clear hall hw
      by_cases hlt : k + 1 < n
      · have hltI : (k : Int) + 1 < (n : Int) := by omega
        obtain ⟨A1, n1, c1, e1⟩ := HRS.out (k + 1) hlt
        obtain ⟨A0, n0, c0, e0⟩ := HRS.out k (by omega)
        have q1 : wr.cell? ⟨g, o + (k + 1), none⟩ = some (.slice A1 n1 c1) := by
          rw [HW.out, HOF.out, Nat.zero_add]; show w.cell? _ = _; rw [HB.out.cell, HAT.out _ hlt, e1]
        have q0 : wr.cell? ⟨g, o + k, none⟩ = some (.slice A0 n0 c0) := by
          rw [HW.out, HOF.out, Nat.zero_add]; show w.cell? _ = _; rw [HB.out.cell, HAT.out _ (by omega), e0]
        have hcall := fun j => HEQ.out wr (k + 1) k j (by rw [HW.out]; exact grown_drewN (grefl' _ _) _) hlt (by omega)
        rw [e1, e0] at hcall
        have HC := Lib.hid hcall
        have E1 := Lib.hid e1; have E0 := Lib.hid e0
        clear e1 e0 hcall
        by_cases hd : (gpr M (k + 1)).2 = (gpr M k).2
        · rw [decide_eq_true hd] at HC
          have HD := Lib.hid hd; clear hd
          go_wp2
          go_quiet ((go_at_call 89; (with_reducible exact Calls.quiet_of (HC.out _))))
          go_wp2
          have hW0 : wr.drewN nq = w.drewN (m + nq) := by rw [HW.out]; exact World.drewN_drewN _ _ _
          have HGW : Hid (w.grownBy (wr.drewN nq) (some g)) := by show World.grownBy _ _ _; rw [hW0]; exact grown_drewN (grefl' _ _) _
          have HBW : Hid (Blk (wr.drewN nq) g 22 cur) := by show Blk _ _ _ _; rw [hW0]; exact HB.out
          clear q1 q0 hW0
          generalize wr.drewN nq = W0 at *
          have e2 : kp M (k + 1 + (0 + 1)) = M.take (k + 1) := by
            rw [show k + 1 + (0 + 1) = (k + 1) + 1 from rfl, kp_same M (k + 1) (by omega) HD.out]
            exact kp_all M (k + 1) (by have := HN.out; omega) HALL.out
          have hMl : M.length = n := HN.out.symm
          go_loopw [5, 7] (fun s5 s7 wi => ∃ (k2 kl : Nat) (cu : Array Value), s7 = .int .i64 ((k2 : Int) + 1) ∧ s5 = .int .i64 kl ∧ kl = (kp M (k + 1 + (k2 + 1))).length ∧ k + 1 + (k2 + 1) ≤ n ∧ Blk wi g 22 cu ∧ cu.size = cap ∧ (∀ i, i < kl → cu[i]? = ((kp M (k + 1 + (k2 + 1))).map (·.1))[i]?) ∧ (∀ i, k + 1 + k2 ≤ i → i < n → cu[i]? = some (gpr M i).1) ∧ w.grownBy wi (some g)) (fun _ i _ => n - (intOf i).toNat)
          case atStart =>
            refine ⟨0, k + 1, cur, rfl, by go_num, by rw [e2, List.length_take]; omega, by omega, HBW.out, HSZ.out, fun i hi => ?_, fun i _ hi => HAT.out i hi, HGW.out⟩
            rw [e2, HAT.out i (by omega), List.getElem?_map, List.getElem?_take, if_pos hi, List.getElem?_eq_getElem (by omega), gpr_lt (by omega)]
            rfl
          case round =>
            clear e2
            obtain ⟨k2, kl, cu, rfl, rfl, hkl, hle, hBi, hsi, hlo, hhi, hgi⟩ := hrel
            obtain ⟨wi, rfl⟩ : ∃ wi, wi = wr := ⟨_, rfl⟩
            have hdup := kp_dup M (k + 1) (by omega) HD.out (k + 1 + (k2 + 1)) (by omega)
            rw [← hkl] at hdup
            have HKL := Lib.hid hkl; have HBI := Lib.hid hBi; have HSI := Lib.hid hsi; have HLO := Lib.hid hlo; have HHI := Lib.hid hhi; have HGI := Lib.hid hgi
            clear hkl hBi hsi hlo hhi hgi HGW HBW
            by_cases hlt2 : k + 1 + (k2 + 1) < n
            · have hI2 : (k2 : Int) + 1 < ((n - (k + 1) : Nat) : Int) := by omega
              obtain ⟨A3, n3, c3, e3⟩ := HRS.out (k + 1 + (k2 + 1)) hlt2
              obtain ⟨A4, n4, c4, e4⟩ := HRS.out (k + 1 + k2) (by omega)
              have p3 : wi.cell? ⟨g, o + (k + 1) + (k2 + 1), none⟩ = some (.slice A3 n3 c3) := by
                rw [HOF.out, show 0 + (k + 1) + (k2 + 1) = k + 1 + (k2 + 1) by omega, HBI.out.cell, HHI.out _ (by omega) hlt2, e3]
              have p4 : wi.cell? ⟨g, o + (k + 1) + k2, none⟩ = some (.slice A4 n4 c4) := by
                rw [HOF.out, show 0 + (k + 1) + k2 = k + 1 + k2 by omega, HBI.out.cell, HHI.out _ (by omega) (by omega), e4]
              have hcall := fun j => HEQ.out wi (k + 1 + (k2 + 1)) (k + 1 + k2) j HGI.out hlt2 (by omega)
              rw [e3, e4] at hcall
              have HC3 := Lib.hid hcall
              have E3 := Lib.hid e3; have E4 := Lib.hid e4
              clear e3 e4 hcall
              by_cases hd2 : (gpr M (k + 1 + (k2 + 1))).2 = (gpr M (k + 1 + k2)).2
              · rw [decide_eq_true hd2] at HC3
                have HD2 : Hid (kp M (k + 1 + (k2 + 1 + 1)) = kp M (k + 1 + (k2 + 1))) := kp_same M (k + 1 + (k2 + 1)) (by omega) hd2
                clear hd2
                go_wp2
                go_quiet ((go_at_call 89; (with_reducible exact Calls.quiet_of (HC3.out _))))
                go_wp2
                go_roundw
                case rel => exact ⟨k2 + 1, kl, cu, by go_num, rfl, by rw [HD2.out]; exact HKL.out, by omega, HBI.out, HSI.out, by rw [HD2.out]; exact HLO.out, fun i h1 h2 => HHI.out i (by omega) h2, grown_drewN HGI.out _⟩
                case measure => simp [intOf]; omega
              · rw [decide_eq_false hd2] at HC3
                have HD2 : Hid (kp M (k + 1 + (k2 + 1 + 1)) = kp M (k + 1 + (k2 + 1)) ++ [gpr M (k + 1 + (k2 + 1))]) := kp_next M (k + 1 + (k2 + 1)) hd2
                clear hd2
                have hlo2 : kl < n := by omega
                have hcap : kl < cap := by omega
                have p5 : ∃ old, wi.cell? ⟨g, o + kl, none⟩ = some old := by
                  rw [HOF.out, Nat.zero_add, HBI.out.cell, Array.getElem?_eq_getElem (by rw [HSI.out]; exact hcap)]
                  exact ⟨_, rfl⟩
                obtain ⟨old, p5⟩ := p5
                have pf := HBI.out.frozen (o + kl)
                go_wp2
                go_quiet ((go_at_call 89; (with_reducible exact Calls.quiet_of (HC3.out _))))
                go_wp2
                go_roundw
                case rel =>
                  have hB2 : Blk ((wi.drewN nq).setCell ⟨g, o + kl, none⟩ (.slice A3 n3 c3)) g 22 (cu.setIfInBounds (o + kl) (.slice A3 n3 c3)) := Blk.set (w := wi.drewN nq) HBI.out _ _
                  rw [HOF.out, Nat.zero_add] at hB2
                  refine ⟨k2 + 1, kl + 1, _, by go_num, by go_num, by rw [HD2.out, List.length_append, List.length_singleton, ← HKL.out], by omega, by rw [HOF.out, Nat.zero_add]; exact hB2, by rw [Array.size_setIfInBounds]; exact HSI.out, fun i hi => ?_, fun i h1 h2 => ?_, grown_setCell (grown_drewN HGI.out _) _ _⟩
                  · rw [HD2.out, List.map_append, Array.getElem?_setIfInBounds]
                    by_cases hil : kl = i
                    · rw [if_pos hil, if_pos (by rw [HSI.out]; exact hcap), ← hil, List.getElem?_append_right (by rw [List.length_map, ← HKL.out]; exact Nat.le_refl _), List.length_map, ← HKL.out, Nat.sub_self, ← E3.out]
                      rfl
                    · rw [if_neg hil, List.getElem?_append_left (by rw [List.length_map, ← HKL.out]; omega)]
                      exact HLO.out i (by omega)
                  · rw [Array.getElem?_setIfInBounds, if_neg (by omega)]
                    exact HHI.out i (by omega) h2
                case measure => simp [intOf]; omega
            · have hnI : ¬ (k2 : Int) + 1 < ((n - (k + 1) : Nat) : Int) := by omega
              have hend : k + 1 + (k2 + 1) = n := by omega
              have HEND := Lib.hid hend
              have hkn : kl < n := by omega
              have hkc : kl ≤ cap := by omega
              have hcl : ∀ ty, (Builtin.clear_ #[63] ty #[.slice (some ⟨g, o + kl, none⟩) (n - kl) (cap - kl)]).run Try.prog wi = .ok (.tuple #[]) (wi.setCells g (o + kl) (List.replicate (n - kl) (.slice none 0 0))) := fun ty =>
                Lib.run_clear_slice wi _ _ ty _ Try.underlying63 (fun _ => by kernel_rfl) rfl rfl g (o + kl) _ _ (by omega) (fun j hj => by
                  rw [HOF.out, Nat.zero_add, HBI.out.cell, Array.getElem?_eq_getElem (by rw [HSI.out]; omega)]; rfl) (fun j hj => HBI.out.frozen _)
              clear hend
              go_wp2
              go_ret
              obtain ⟨cu', b1, b2, b3⟩ := blk_setCells (List.replicate (n - kl) (.slice none 0 0)) (o + kl) wi cu HBI.out
              have eo := HOF.out
              have hk' : kl = (kp M n).length := by rw [← HEND.out]; exact HKL.out
              have hl := HLO.out
              rw [HEND.out] at hl
              rw [eo, Nat.zero_add] at b1 b3
              rw [eo, Nat.zero_add kl, ← hk']
              refine ⟨rfl, Own.of_cells HBG.out b1 hkc HMX.out (by rw [b2]; exact HSI.out) (by rw [List.length_map, ← hk']) (fun i hi => ?_), grown_setCells _ _ _ HGI.out⟩
              rw [b3 i (by omega)]
              exact hl i hi
        · rw [decide_eq_false hd] at HC
          have HD := Lib.hid hd; clear hd
          go_wp2
          go_quiet ((go_at_call 89; (with_reducible exact Calls.quiet_of (HC.out _))))
          go_wp2
          go_roundw
          case rel => exact ⟨k + 1, _, by go_num, by omega, fun i h0 hi => if hik : i = k + 1 then by subst hik; exact HD.out else HALL.out i h0 (by omega), by rw [HW.out]; exact World.drewN_drewN _ _ _⟩
          case measure => simp [intOf]; omega
      · have hnk : ¬ (k : Int) + 1 < (n : Int) := by omega
        have hkn : n = k + 1 := by omega
        have HK : Hid (kp M n = M) := by
          show _ = _
          rw [kp_all M n (by rw [HN.out]; exact Nat.le_refl _) (fun i h0 hi => HALL.out i h0 (by omega)), HN.out, List.take_length]
        clear hkn
        go_wp2
        go_ret
        rw [HK.out, ← HN.out, HOF.out]
        refine ⟨rfl, ?_, ?_⟩
        · rw [HW.out]; exact HO.out.below (bdrew (Below.refl _ _) _)
        · rw [HW.out]; exact grown_drewN (grefl' _ _) _
end Go.Proofs.Ytbledcogbkeneaa
namespace Go.Proofs.Ytbledcogbkeneaa
open Go.RowKit
set_option linter.unusedVariables false

theorem FrP.rdx {w : World} {lo g : Nat} {L : List (Value × List Int)} (h : FrP w lo L) (hg : ∀ x ∈ L, x.1.ownBlock ≠ some g) : ∀ x ∈ L, RdX w g x.1 x.2 := by
  intro x hx
  obtain ⟨⟨A, c, e⟩, ho⟩ := h.1 x hx
  refine ⟨A, c, e, ?_, fun a ha hb => ?_⟩
  · rw [e] at ho; exact ho.rd
  · refine hg x hx ?_
    rw [e, ha]
    show some a.block = _
    rw [hb]
theorem FrP.grown {w w' : World} {lo g : Nat} {L : List (Value × List Int)} (h : FrP w lo L) (hg : w.grownBy w' (some g)) (hne : ∀ x ∈ L, x.1.ownBlock ≠ some g) : FrP w' lo L :=
  h.keep fun x hx ho => ho.grown hg (.inr (hne x hx))
theorem kp_subP {L M : List (Value × List Int)} (hM : M.Perm L) : SubP (kp M M.length) L :=
  ⟨M, hM, by have := kp_sub M M.length (Nat.le_refl _); rwa [List.take_length] at this⟩

set_option maxHeartbeats 800000 in
theorem sortedHeaps_any (g cap lo : Nat) (L : List (Value × List Int)) (w : World) (hn : L.length ≤ 1000000) (ho : Own w lo 22 (.slice (some ⟨g, 0, none⟩) L.length cap) (L.map (·.1))) (hP : FrP w lo L) (hg : ∀ x ∈ L, x.1.ownBlock ≠ some g) :
    Calls Try.prog 80 #[.slice (some ⟨g, 0, none⟩) L.length cap] w fun e w' => ∃ L' : List (Value × List Int), e = .returned (.slice (some ⟨g, 0, none⟩) L'.length cap) ∧
      Own w' lo 22 (.slice (some ⟨g, 0, none⟩) L'.length cap) (L'.map (·.1)) ∧ FrP w' lo L' ∧ (∀ x ∈ L', x.1.ownBlock ≠ some g) ∧ Sorted (L'.map (·.2)) ∧ (∀ xs, xs ∈ L'.map (·.2) ↔ xs ∈ L.map (·.2)) ∧ L'.length ≤ L.length ∧ w.grownBy w' (some g) := by
  have hS := sortRows_any g cap lo L w (hP.rdx hg) hn ho
  have HS := Lib.hid hS
  have HP := Lib.hid hP; have HG := Lib.hid hg; have HN := Lib.hid hn
  clear hS ho hP hg hn
  go_enter Try.func80, Try.ntmps80
  go_wp2_with fail
  ((with_reducible refine (HS.out).mono ?_); rintro e w1 ⟨rfl, M, hM, hs, ho1, hg1⟩)
  have hsub : SubP M L := ⟨M, hM, List.Sublist.refl _⟩
  have hP1 := (HP.out.sub hsub).grown hg1 fun x hx => HG.out x (hsub.mem hx)
  have hl : M.length = L.length := hM.length_eq
  have hC := compactRows_any g cap lo M w1 (hP1.rdx fun x hx => HG.out x (hsub.mem hx)) (by have := HN.out; omega) (by rw [hl]; exact ho1)
  rw [hl] at hC
  rw [← hl] at hC
  have HC := Lib.hid hC
  have HM := Lib.hid hM; have HSo := Lib.hid hs; have HP1 := Lib.hid hP1; have HG1 := Lib.hid hg1; have HL := Lib.hid hl
  rw [hl] at HC
  clear hC hM hs hP1 hg1 hl hsub ho1
  go_wp2_with fail
  ((with_reducible refine (HC.out).mono ?_); rintro e w2 ⟨rfl, ho2, hg2⟩)
  rw [← HL.out] at ho2 ⊢
  have hsub := kp_subP HM.out
  have HO2 := Lib.hid ho2; have HG2 := Lib.hid hg2; have HSub := Lib.hid hsub
  clear ho2 hg2 hsub
  go_wp2
  go_ret
  refine ⟨kp M M.length, rfl, HO2.out, ?_, fun x hx => HG.out x (HSub.out.mem hx), kp_ris M HSo.out M.length (Nat.le_refl _), fun xs => ?_, HSub.out.len, HG1.out.trans HG2.out⟩
  · refine FrP.grown ?_ HG2.out fun x hx => HG.out x (HSub.out.mem hx)
    exact HP1.out.sub ⟨M, List.Perm.refl _, by have := kp_sub M M.length (Nat.le_refl _); rwa [List.take_length] at this⟩
  · rw [kp_mem M M.length (Nat.le_refl _), List.take_length]
    exact (HM.out.map (·.2)).mem_iff
end Go.Proofs.Ytbledcogbkeneaa
namespace Go.Proofs.Ytbledcogbkeneaa
open Go.RowKit
set_option linter.unusedVariables false

/-- v is a new slice of new rows, at most b of them, those for which P holds. -/
def MvW (w : World) (lo : Nat) (v : Value) (b : Nat) (P : List Int → Prop) : Prop :=
  ∃ (xss : List (List Int)) (g c : Nat), v = .slice (some ⟨g, 0, none⟩) xss.length c ∧ FrR w lo 22 3 v (xss.map ints) ∧ xss.length ≤ b ∧ ∀ xs, xs ∈ xss ↔ P xs
theorem MvW.congr {w : World} {lo : Nat} {v : Value} {b b' : Nat} {P Q : List Int → Prop} (h : MvW w lo v b P) (hb : b ≤ b') (hq : ∀ xs, P xs ↔ Q xs) : MvW w lo v b' Q := by
  obtain ⟨xss, g, c, h1, h2, h4, h5⟩ := h
  exact ⟨xss, g, c, h1, h2, by omega, fun xs => (h5 xs).trans (hq xs)⟩
theorem MvW.below {w w' : World} {lo : Nat} {v : Value} {b : Nat} {P : List Int → Prop} (h : MvW w lo v b P) (hb : Below w.heap.size w w') : MvW w' lo v b P := by
  obtain ⟨xss, g, c, h1, h2, r⟩ := h
  exact ⟨xss, g, c, h1, h2.below hb, r⟩
theorem MvW.new (w : World) (P : List Int → Prop) (hP : ∀ xs, ¬ P xs) : MvW (w.alloc (.cells #[] 22)) w.heap.size (.slice (some ⟨w.heap.size, 0, none⟩) 0 0) 0 P :=
  ⟨[], w.heap.size, 0, rfl, FrR.nil (Own.empty w 22 22 _ (Nat.le_refl _)), by simp, fun xs => ⟨fun h => (by cases h), fun h => absurd h (hP xs)⟩⟩
theorem own_lits (w : World) (xs : List Int) (base : Nat) (hb : base ≤ w.heap.size) (hl : xs.length ≤ 1000) : Own (w.alloc (.cells (ints xs).toArray 3)) base 3 (.slice (some ⟨w.heap.size, 0, none⟩) xs.length xs.length) (ints xs) := by
  have h : World.ownsRow (w.alloc (.cells (ints xs).toArray 3)) base 3 1 (.slice (some ⟨w.heap.size, 0, none⟩) xs.length xs.length) xs.length (ints xs).toArray.toList := World.ownsRow_lit w (ints xs).toArray xs.length hb (by unfold maxLen; omega) (by simp [ints])
  unfold Own
  rw [ints_len]
  exact h
theorem frr_app {W w1 W2 w' : World} {lo : Nat} {v : Value} {b : Nat} {P : List Int → Prop} {xss : List (List Int)} {cs : List Value} {g c : Nat} {A c' : _} {r : Value} {xs : List Int} (hF : Own W lo 22 v cs ∧ FrC W lo 3 cs (xss.map ints) ∧ ∀ (i : Nat) (u : Value) (g : Nat), cs[i]? = some u → u.ownBlock = some g → v.ownBlock ≠ some g) (hlo : lo ≤ W.heap.size) (hxl : xss.length ≤ b) (hP : ∀ xs, xs ∈ xss ↔ P xs)
    (hb1 : Below W.heap.size W w1) (hr : Own w1 W.heap.size 3 r (ints xs)) (hb2 : Below w1.heap.size w1 W2)
    (ho : Own w' lo 22 (.slice A (xss.length + 1) c') (cs ++ [r])) (hg : W2.grownBy w' v.ownBlock) (hp : (Value.slice A (xss.length + 1) c').ownBlock = v.ownBlock ∨ (Value.slice A (xss.length + 1) c').ownBlock = some W2.heap.size) :
    MvW w' lo (.slice A (xss.length + 1) c') (b + 1) (fun ys => P ys ∨ ys = xs) := by
  have hcl : cs.length = xss.length := by rw [hF.2.1.1, List.length_map]
  obtain ⟨g', rfl, _⟩ := ho.at (by rw [List.length_append, List.length_singleton]; omega)
  have e : (xss ++ [xs]).length = xss.length + 1 := by simp
  have hfr := FrR.push hF hlo hb1 hr hb2 ho hg hp
  refine ⟨xss ++ [xs], g', c', by rw [e], ?_, by rw [e]; omega, fun ys => ?_⟩
  · rw [List.map_append]
    exact hfr
  · rw [List.mem_append, hP, List.mem_singleton]
theorem app_row {W : World} {ops : Array Oper} {rest : List Oper} {o : Oper} {a : Act} {Q : Exit → Act → World → Prop} (hgd : o.guard = none) (s x : Operand)
    (ho : o.op = .call { callee := .builtin .append, args := #[s, x], argTypes := #[63, 63] }) (lo : Nat) (v : Value) (b : Nat) (P : List Int → Prop) (xs : List Int)
    (hm : MvW W lo v b P) (hlo : lo ≤ W.heap.size) (W2 : World) (hW2 : W2 = (W.alloc (.cells (ints xs).toArray 3)).alloc (.cells #[.slice (some ⟨W.heap.size, 0, none⟩) xs.length xs.length] 22))
    (hs : a.eval s = v) (hx : a.eval x = .slice (some ⟨W.heap.size + 1, 0, none⟩) 1 1) (hlen : xs.length ≤ 1000) (hb : b ≤ 100000000)
    (h : ∀ v' w', MvW w' lo v' (b + 1) (fun ys => P ys ∨ ys = xs) → Below lo W w' → W.heap.size ≤ w'.heap.size → wpList Try.prog ops Q rest (a.put o.dst v') w') :
    wpList Try.prog ops Q (o :: rest) a W2 := by
  subst hW2
  obtain ⟨xss, g, c, hv, ⟨cs, hF⟩, hxl, hP⟩ := hm
  have hcl : cs.length = xss.length := by rw [hF.2.1.1, List.length_map]
  have hb1 : Below W.heap.size W (W.alloc (.cells (ints xs).toArray 3)) := bel1 _ _
  have hb2 : Below (W.alloc (.cells (ints xs).toArray 3)).heap.size (W.alloc (.cells (ints xs).toArray 3)) ((W.alloc (.cells (ints xs).toArray 3)).alloc (.cells #[.slice (some ⟨W.heap.size, 0, none⟩) xs.length xs.length] 22)) := bel1 _ _
  have hb12 := gtr hb1 hb2
  refine wpList_append_at hgd s x 63 22 (.slice none 0 0) 24 ho Try.underlying63 infoRow rfl (by omega) lo v cs hs (hF.1.below hb12) (W.heap.size + 2) (some ⟨W.heap.size + 1, 0, none⟩) 1 1 [.slice (some ⟨W.heap.size, 0, none⟩) xs.length xs.length] hx rfl (Rd.of_blk (Blk.new_at _ _ _ (by simp)) (Nat.lt_succ_self _)) (fun u hu => by simp at hu; subst hu; rfl) (by simp; omega) (by have := hb12.size; omega) ?_
  intro A6 c6 w6 ho6 hb6 hg6 hp6
  rw [hcl, List.length_singleton] at ho6 hp6 ⊢
  refine h _ w6 (frr_app (g := g) (c := c) hF hlo hxl hP hb1 (own_lits W xs _ (Nat.le_refl _) hlen) hb2 ho6 hg6 hp6) ((hb12.mono hlo).trans hb6) (Nat.le_trans hb12.size hg6.size)
/-- A new slice of new rows in order, at most b of them, those for which P holds. -/
def HL (w : World) (lo : Nat) (v : Value) (b : Nat) (P : List Int → Prop) : Prop :=
  ∃ (L : List (Value × List Int)) (g c : Nat), v = .slice (some ⟨g, 0, none⟩) L.length c ∧ Own w lo 22 v (L.map (·.1)) ∧ FrP w lo L ∧ (∀ x ∈ L, x.1.ownBlock ≠ some g) ∧ Sorted (L.map (·.2)) ∧ L.length ≤ b ∧ ∀ xs, xs ∈ L.map (·.2) ↔ P xs
theorem HL.congr {w : World} {lo : Nat} {v : Value} {b b' : Nat} {P Q : List Int → Prop} (h : HL w lo v b P) (hb : b ≤ b') (hq : ∀ xs, P xs ↔ Q xs) : HL w lo v b' Q := by
  obtain ⟨L, g, c, h1, h2, h3, h4, h5, h6, h7⟩ := h
  exact ⟨L, g, c, h1, h2, h3, h4, h5, by omega, fun xs => (h7 xs).trans (hq xs)⟩
theorem HL.below {w w' : World} {lo : Nat} {v : Value} {b : Nat} {P : List Int → Prop} (h : HL w lo v b P) (hb : Below w.heap.size w w') : HL w' lo v b P := by
  obtain ⟨L, g, c, h1, h2, h3, r⟩ := h
  exact ⟨L, g, c, h1, h2.below hb, h3.keep fun x hx k => k.below hb, r⟩
/-- The rows that were gathered, in order. -/
theorem sortedHeaps_of (lo : Nat) (v : Value) (b : Nat) (P : List Int → Prop) (w : World) (h : MvW w lo v b P) (hb : b ≤ 1000000) :
    Calls Try.prog 80 #[v] w fun e w' => ∃ v', e = .returned v' ∧ HL w' lo v' b P ∧ Below lo w w' ∧ w.heap.size ≤ w'.heap.size := by
  obtain ⟨xss, g, c, rfl, hF, hxl, hP⟩ := h
  obtain ⟨cs, h1, h2, h3⟩ := hF
  have hcl : cs.length = xss.length := by rw [h2.1, List.length_map]
  obtain ⟨z1, z2⟩ := zip_fst cs xss hcl
  have hl : (cs.zip xss).length = xss.length := by rw [List.length_zip]; omega
  have hap : ∀ x ∈ cs.zip xss, x.1.ownBlock ≠ some g := fun x hx he => by
    obtain ⟨i, hi, rfl⟩ := List.getElem_of_mem hx
    rw [List.getElem_zip] at he
    rw [List.length_zip] at hi
    exact h3 i _ g (List.getElem?_eq_getElem (by omega)) he rfl
  have hcall := sortedHeaps_any g c lo (cs.zip xss) w (by omega) (by rw [z1, hl]; exact h1) h2.frp hap
  rw [hl] at hcall
  refine hcall.mono ?_
  rintro e w' ⟨L', rfl, ho, hP', hg', hs, hm, hle, hgr⟩
  refine ⟨_, rfl, ⟨L', g, c, rfl, ho, hP', hg', hs, by omega, fun xs => ?_⟩, ?_, hgr.size⟩
  · rw [hm, z2, hP]
  · have hgl := (h1.lt g rfl).1
    exact ⟨hgr.os, hgr.tape, hgr.output, hgr.size, fun k hk => hgr.block k (by have := (h1.lt g rfl).2; omega) (by simp; omega)⟩
end Go.Proofs.Ytbledcogbkeneaa
namespace Go.Proofs.Ytbledcogbkeneaa
open Go.RowKit
set_option linter.unusedVariables false

set_option maxRecDepth 100000 in
set_option maxHeartbeats 3200000 in
theorem heapMoves_any (A : Option Addr) (c : Nat) (cs : List Int) (n : Nat) (w : World) (B : Nat) (hB : B ≤ w.heap.size) (h : RdI w B A c cs) (hn : n ≤ 300) (hg : goodCode cs) :
    Calls Try.prog 78 #[.slice A cs.length c, .int .i64 n] w fun e w' => (∃ v, e = .returned v ∧ HL w' w.heap.size v 10000 (isMv cs n)) ∧ Below w.heap.size w w' := by
  have h1 := h.len
  have h2 := h.max
  obtain ⟨hg1, hg2, hg3, hg4⟩ := hg
  clear hg3
  have HD := Lib.hid hg4; clear hg4
  go_enter Try.func78, Try.ntmps78
  go_wp2
  go_loopg [5, 13] cs.length (fun gk v i wr => ∃ j : Nat, i = .int .i64 j ∧ j + gk = cs.length ∧ MvW wr w.heap.size v (j * 400) (mvTo cs n j) ∧ Below w.heap.size w wr)
  case atStart => exact ⟨0, rfl, by omega, MvW.new w _ (mvTo_zero cs n), bel1 w _⟩
  case round =>
    obtain ⟨j, rfl, hj, hm, hb⟩ := hrel
    obtain ⟨gj, rfl⟩ : ∃ gj : Nat, gj = gk := ⟨_, rfl⟩
    have HJ := Lib.hid hj
    have hj : j ≤ cs.length := by omega
    have HM := Lib.hid hm; clear hm
    by_cases hcont : j < cs.length ∧ j + 1 ≤ n
    · obtain ⟨hjl, hjn⟩ := hcont
      obtain ⟨b, o, rfl, hbB, hc⟩ := (h.below hb hB).at (j := j) hjl
      have hd := hc j hjl
      clear hc
      have hdr := HD.out j hjl
      have e1 := band1 _ hdr
      have e2 := band2 _ hdr
      have e4 := band4 _ hdr
      have HNext : Hid (∀ xs, mvTo cs n (j + 1) xs ↔ mvTo cs n j xs ∨ mvD (gi cs j) (n - (j + 1)) (n + 1) xs) := fun xs => mvTo_succ cs n j xs hjl hjn
      generalize gi cs j = d at *
      have HDR := Lib.hid hdr; clear hdr
      go_upto_region 7 with (fail)
      go_cut [30] (fun s30 wc => s30 = .bool (decide (d % 2 = 1 ∧ n - (j + 1) = 0)) ∧ wr = wc)
      case first =>
        clear e2 e4
        by_cases hb1 : d % 2 = 1
        · rw [hb1] at e1
          by_cases hr : n - (j + 1) = 0
          · have hr1 : ((n : Int) - j - 1 == 0) = true := by simp; omega
            have HR : Hid (d % 2 = 1 ∧ n - (j + 1) = 0) := ⟨hb1, hr⟩
            clear hr hb1
            go_wp2
            go_meet
            exact ⟨by rw [decide_eq_true HR.out], rfl⟩
          · have hr1 : ((n : Int) - j - 1 == 0) = false := by simp; omega
            have HR : Hid (¬ (d % 2 = 1 ∧ n - (j + 1) = 0)) := fun h => hr h.2
            clear hr hb1
            go_wp2
            go_meet
            exact ⟨by rw [decide_eq_false HR.out], rfl⟩
        · have e1' : bits .and .i64 d 1 = 0 := by rw [e1]; omega
          have HR : Hid (¬ (d % 2 = 1 ∧ n - (j + 1) = 0)) := fun h => hb1 h.1
          clear hb1 e1
          go_wp2
          go_meet
          exact ⟨by rw [decide_eq_false HR.out], rfl⟩
      case rest =>
        obtain ⟨rfl, rfl⟩ := hcut
        clear e1
        go_upto_if 30 with (fail)
        go_cut [5] (fun v wc => MvW wc w.heap.size v (j * 400 + 1) (fun xs => mvTo cs n j xs ∨ (d % 2 = 1 ∧ n - (j + 1) = 0 ∧ xs = [])) ∧ Below w.heap.size w wc)
        case first =>
          clear e2 e4
          by_cases hR : d % 2 = 1 ∧ n - (j + 1) = 0
          · have hR' : decide (d % 2 = 1 ∧ n - (j + 1) = 0) = true := decide_eq_true hR
            have HR := Lib.hid hR; clear hR
            have hzw := hb.size
            have hjb : j * 400 ≤ 100000000 := by omega
            go_wp2_with (at_builtin; refine app_row rfl _ _ rfl w.heap.size _ (j * 400) (mvTo cs n j) [] HM.out hzw _ rfl rfl rfl (by simp) hjb ?_; intro v2 w2 hm2 hb2 hz2)
            go_meet
            refine ⟨hm2.congr (by omega) fun xs => ?_, hb.trans hb2⟩
            have := HR.out
            simp [this]
          · have hR' : decide (d % 2 = 1 ∧ n - (j + 1) = 0) = false := decide_eq_false hR
            have HR := Lib.hid hR; clear hR
            go_wp2
            go_meet
            exact ⟨HM.out.congr (by omega) fun xs => ⟨fun h => .inl h, fun h => h.resolve_right fun h => HR.out ⟨h.1, h.2.1⟩⟩, hb⟩
        case rest =>
          clear HM hb hd
          obtain ⟨hm, hb⟩ := hcut
          have HM := Lib.hid hm; clear hm
          go_upto_region 9 with (fail)
          go_cut [41] (fun s41 wd => s41 = .bool (decide (d / 2 % 2 = 1 ∧ 0 < n - (j + 1))) ∧ wc = wd)
          case first =>
            clear e4
            by_cases hb1 : d / 2 % 2 = 1
            · rw [hb1] at e2
              by_cases hr : 0 < n - (j + 1)
              · have hr1 : (1 : Int) < (n : Int) - j := by omega
                have HR : Hid (d / 2 % 2 = 1 ∧ 0 < n - (j + 1)) := ⟨hb1, hr⟩
                clear hr hb1
                go_wp2
                go_meet
                exact ⟨by rw [decide_eq_true HR.out], rfl⟩
              · have hr1 : ¬ (1 : Int) < (n : Int) - j := by omega
                have HR : Hid (¬ (d / 2 % 2 = 1 ∧ 0 < n - (j + 1))) := fun h => hr h.2
                clear hr hb1
                go_wp2
                go_meet
                exact ⟨by rw [decide_eq_false HR.out], rfl⟩
            · have e2' : bits .and .i64 d 2 = 0 := by rw [e2]; omega
              have HR : Hid (¬ (d / 2 % 2 = 1 ∧ 0 < n - (j + 1))) := fun h => hb1 h.1
              clear hb1 e2
              go_wp2
              go_meet
              exact ⟨by rw [decide_eq_false HR.out], rfl⟩
          case rest =>
            obtain ⟨rfl, rfl⟩ := hcut
            clear e2
            go_upto_if 41 with (fail)
            go_cut [5] (fun v wd => MvW wd w.heap.size v (j * 400 + 2) (fun xs => mvTo cs n j xs ∨ mvD d (n - (j + 1)) 1 xs) ∧ Below w.heap.size w wd)
            case first =>
              clear e4
              by_cases hR : d / 2 % 2 = 1 ∧ 0 < n - (j + 1)
              · have hR' : decide (d / 2 % 2 = 1 ∧ 0 < n - (j + 1)) = true := decide_eq_true hR
                have HR := Lib.hid hR; clear hR
                have hzw := hb.size
                have hjb : j * 400 + 1 ≤ 100000000 := by omega
                go_wp2_with (at_builtin; refine app_row rfl _ _ rfl w.heap.size _ (j * 400 + 1) _ [(n : Int) - j - 1] HM.out hzw _ rfl rfl rfl (by simp) hjb ?_; intro v2 w2 hm2 hb2 hz2)
                go_meet
                refine ⟨hm2.congr (by omega) fun xs => ?_, hb.trans hb2⟩
                obtain ⟨k1, k2⟩ := HR.out
                rw [mvD_one, show ((n : Int) - j - 1) = ((n - (j + 1) : Nat) : Int) by omega]
                constructor
                · rintro ((hh | hh) | hh)
                  · exact .inl hh
                  · exact .inr (.inl hh)
                  · exact .inr (.inr ⟨k1, k2, hh⟩)
                · rintro (hh | hh | hh)
                  · exact .inl (.inl hh)
                  · exact .inl (.inr hh)
                  · exact .inr hh.2.2
              · have hR' : decide (d / 2 % 2 = 1 ∧ 0 < n - (j + 1)) = false := decide_eq_false hR
                have HR := Lib.hid hR; clear hR
                go_wp2
                go_meet
                refine ⟨HM.out.congr (by omega) fun xs => ?_, hb⟩
                rw [mvD_one]
                constructor
                · rintro (hh | hh)
                  · exact .inl hh
                  · exact .inr (.inl hh)
                · rintro (hh | hh | hh)
                  · exact .inl hh
                  · exact .inr hh
                  · exact absurd ⟨hh.1, hh.2.1⟩ HR.out
            case rest =>
              clear HM hb
              obtain ⟨hm, hb⟩ := hcut
              go_wp2
              go_loopg [5, 9] (n + 1) (fun gk v t wr => ∃ t' : Nat, t = .int .i64 t' ∧ (t' + gk = n + 2 ∧ t' ≤ n + 1) ∧ 1 ≤ t' ∧ MvW wr w.heap.size v (j * 400 + 2 + t') (fun xs => mvTo cs n j xs ∨ mvD d (n - (j + 1)) t' xs) ∧ Below w.heap.size w wr)
              case atStart => exact ⟨1, rfl, ⟨by omega, by omega⟩, by omega, hm.congr (by omega) fun xs => Iff.rfl, hb⟩
              case round =>
                clear hm hb
                obtain ⟨t, rfl, ht2, ht1, hm, hb⟩ := hrel
                have HT := Lib.hid ht2
                have ht2 : t ≤ n + 1 := ht2.2
                have HM := Lib.hid hm; clear hm
                by_cases hcont : d / 4 % 2 = 1 ∧ 2 * t ≤ n - (j + 1)
                · obtain ⟨hd4, h2t⟩ := hcont
                  have h2t' : (2 : Int) * t ≤ (n : Int) - j - 1 := by omega
                  have hNx : Hid (∀ xs, mvD d (n - (j + 1)) (t + 1) xs ↔ mvD d (n - (j + 1)) t xs ∨ xs = [(t : Int), ((n - (j + 1) - t : Nat) : Int)]) := fun xs => mvD_succ d _ t xs hd4 ht1 h2t
                  have e4' : bits .and .i64 d 4 = 4 := by rw [e4]; omega
                  have hzw := hb.size
                  have hjb : j * 400 + 2 + t ≤ 100000000 := by omega
                  clear hd4 e4
                  go_wp2_with (at_builtin; refine app_row rfl _ _ rfl w.heap.size _ (j * 400 + 2 + t) _ [(t : Int), (n : Int) - j - 1 - t] HM.out hzw _ rfl rfl rfl (by simp) hjb ?_; intro v2 w2 hm2 hb2 hz2)
                  have HM2 := Lib.hid hm2; clear hm2
                  go_roundg (gk - 1)
                  case measure => have := HT.out; omega
                  case rel =>
                    have := HT.out
                    refine ⟨t + 1, by go_num, ⟨by omega, by omega⟩, by omega, HM2.out.congr (by omega) fun xs => ?_, hb.trans hb2⟩
                    rw [hNx.out, or_assoc, show ((n : Int) - j - 1 - t) = ((n - (j + 1) - t : Nat) : Int) by omega]
                · have HE : Hid (¬ d / 4 % 2 = 1 ∨ n - (j + 1) < 2 * t) := by
                    by_cases hd4 : d / 4 % 2 = 1
                    · right
                      exact Nat.lt_of_not_le fun h => hcont ⟨hd4, h⟩
                    · exact .inl hd4
                  have hNx : Hid (∀ xs, mvTo cs n (j + 1) xs ↔ mvTo cs n j xs ∨ mvD d (n - (j + 1)) t xs) := fun xs => by
                    rw [HNext.out, mvD_end d (n - (j + 1)) t (n + 1) xs HE.out ht2]
                  clear HE
                  by_cases hd4 : d / 4 % 2 = 1
                  all_goals
                    first
                      | (have e5 : bits .and .i64 d 4 = 4 := by rw [e4]; omega
                         have h3 : ((n : Int) - j - 1 < 2 * t) := by
                           have : ¬ 2 * t ≤ n - (j + 1) := fun h => hcont ⟨hd4, h⟩
                           omega
                         clear e4 hd4 hcont)
                      | (have e5 : bits .and .i64 d 4 = 0 := by rw [e4]; omega
                         clear e4 hd4 hcont)
                    go_wp2
                    go_roundg (gj - 1)
                    case measure => have := HJ.out; omega
                    case rel =>
                      have := HJ.out
                      exact ⟨j + 1, by go_num, by omega, HM.out.congr (by omega) fun xs => (hNx.out xs).symm, hb⟩
    · have HE : Hid (j = cs.length ∨ n ≤ j) := by
        by_cases hjl : j < cs.length
        · exact .inr (Nat.le_of_not_lt fun hk => hcont ⟨hjl, hk⟩)
        · exact .inl (by omega)
      clear hcont
      have hxl : j * 400 ≤ 10000 := by omega
      have hS := sortedHeaps_of w.heap.size _ 10000 (isMv cs n) wr (HM.out.congr hxl fun xs => mvTo_end cs n j xs HE.out) (by omega)
      have HS := Lib.hid hS
      clear HM hS
      by_cases hjl : j < cs.length
      · have hkj : n ≤ j := by have := HE.out; omega
        obtain ⟨b, o, rfl, hbB, hc⟩ := (h.below hb hB).at (j := j) hjl
        have hd := hc j hjl
        clear hc
        go_wp2_with (go_at_call 80; (with_reducible refine (HS.out).mono ?_); rintro e w1 ⟨v1, rfl, hv1, hb1, hz1⟩)
        go_ret
        exact ⟨⟨v1, rfl, hv1⟩, hb.trans hb1⟩
      · go_wp2_with (go_at_call 80; (with_reducible refine (HS.out).mono ?_); rintro e w1 ⟨v1, rfl, hv1, hb1, hz1⟩)
        go_ret
        exact ⟨⟨v1, rfl, hv1⟩, hb.trans hb1⟩
end Go.Proofs.Ytbledcogbkeneaa
