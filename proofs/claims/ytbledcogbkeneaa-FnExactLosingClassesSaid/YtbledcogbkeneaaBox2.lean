/- BoxHeaps of the program and of the reference by contracts, and the law. Conditions: none. -/
import Derived.Test.YtbledcogbkeneaaBox
namespace Go.Proofs.Ytbledcogbkeneaa
open Go.RowKit
set_option linter.unusedVariables false

theorem getElem?_lt {α : Type} {l : List α} {i : Nat} {u : α} (h : l[i]? = some u) : i < l.length := by
  rcases Nat.lt_or_ge i l.length with h' | h'
  · exact h'
  · rw [List.getElem?_eq_none h'] at h; cases h
theorem FrC.blk {w : World} {lo : Nat} {e : TypeId} {cs : List Value} {css : List (List Value)} (h : FrC w lo e cs css) {i : Nat} {u : Value} {g : Nat} (hi : cs[i]? = some u) (hu : u.ownBlock = some g) : lo ≤ g ∧ g < w.heap.size := by
  obtain ⟨Ai, ci, k1, k2⟩ := h.2.1 i (by rw [← h.1]; exact getElem?_lt hi)
  rw [k1] at hi
  injection hi with hi
  subst hi
  exact k2.lt g hu
theorem FrC.grown {w w' : World} {lo : Nat} {e : TypeId} {cs : List Value} {css : List (List Value)} {row : Option Nat} (h : FrC w lo e cs css) (hg : w.grownBy w' row)
    (hr : ∀ (i : Nat) (u : Value) (g : Nat), cs[i]? = some u → u.ownBlock = some g → row ≠ some g) : FrC w' lo e cs css :=
  h.keep fun i u xs hi k => k.grown hg (by
    by_cases hu : u.ownBlock = none
    · exact .inl hu
    · refine .inr fun he => ?_
      obtain ⟨g, hg'⟩ := Option.ne_none_iff_exists'.1 hu
      exact hr i u g hi hg' (by rw [← he]; exact hg'))
theorem FrC.below {w w' : World} {lo : Nat} {e : TypeId} {cs : List Value} {css : List (List Value)} (h : FrC w lo e cs css) (hb : Below w.heap.size w w') : FrC w' lo e cs css := h.keep fun _ _ _ _ k => k.below hb
theorem FrC.le {w : World} {lo lo' : Nat} {e : TypeId} {cs : List Value} {css : List (List Value)} (h : FrC w lo e cs css) (hl : lo' ≤ lo) : FrC w lo' e cs css :=
  ⟨h.1, fun i hi => by obtain ⟨Ai, ci, k1, k2⟩ := h.2.1 i hi; exact ⟨Ai, ci, k1, k2.le hl⟩, h.2.2⟩
theorem FrC.append {w : World} {lo : Nat} {e : TypeId} {cs ds : List Value} {css dss : List (List Value)} (h : FrC w lo e cs css) (k : FrC w lo e ds dss)
    (hx : ∀ (i j : Nat) (u u' : Value) (g : Nat), cs[i]? = some u → ds[j]? = some u' → u.ownBlock = some g → u'.ownBlock ≠ some g) : FrC w lo e (cs ++ ds) (css ++ dss) := by
  refine ⟨by rw [List.length_append, List.length_append, h.1, k.1], fun i hi => ?_, fun i j u u' g hi hj hu hu' => ?_⟩
  · rw [List.length_append] at hi
    by_cases hl : i < css.length
    · obtain ⟨Ai, ci, h1, h2⟩ := h.2.1 i hl
      have eg : gc (css ++ dss) i = gc css i := by simp [gc, List.getElem?_append_left hl]
      rw [eg]
      exact ⟨Ai, ci, by rw [List.getElem?_append_left (by rw [h.1]; exact hl)]; exact h1, h2⟩
    · obtain ⟨Ai, ci, h1, h2⟩ := k.2.1 (i - css.length) (by omega)
      have eg : gc (css ++ dss) i = gc dss (i - css.length) := by simp [gc, List.getElem?_append_right (Nat.le_of_not_lt hl)]
      rw [eg]
      exact ⟨Ai, ci, by rw [List.getElem?_append_right (by rw [h.1]; omega), h.1]; exact h1, h2⟩
  · have side : ∀ {t : Nat} {x : Value}, (cs ++ ds)[t]? = some x → (t < cs.length ∧ cs[t]? = some x) ∨ (cs.length ≤ t ∧ ds[t - cs.length]? = some x) := by
      intro t x ht
      by_cases hl : t < cs.length
      · rw [List.getElem?_append_left hl] at ht; exact .inl ⟨hl, ht⟩
      · rw [List.getElem?_append_right (by omega)] at ht; exact .inr ⟨by omega, ht⟩
    rcases side hi with ⟨a1, a2⟩ | ⟨a1, a2⟩ <;> rcases side hj with ⟨b1, b2⟩ | ⟨b1, b2⟩
    · exact h.2.2 i j u u' g a2 b2 hu hu'
    · exact absurd hu' (hx _ _ u u' g a2 b2 hu)
    · exact absurd hu (hx _ _ u' u g b2 a2 hu')
    · have := k.2.2 _ _ u u' g a2 b2 hu hu'
      omega
/-- New rows are put behind older ones. -/
theorem FrR.join {w w1 w3 : World} {lo : Nat} {E e : TypeId} {v v' : Value} {cs ds : List Value} {css dss : List (List Value)} (h : Own w lo E v cs ∧ FrC w lo e cs css ∧ ∀ (i : Nat) (u : Value) (g : Nat), cs[i]? = some u → u.ownBlock = some g → v.ownBlock ≠ some g) (hlo : lo ≤ w.heap.size)
    (hb1 : Below w.heap.size w w1) (k : FrC w1 w.heap.size e ds dss) (ho : Own w3 lo E v' (cs ++ ds)) (hg : w1.grownBy w3 v.ownBlock) (hp : v'.ownBlock = v.ownBlock ∨ v'.ownBlock = some w1.heap.size) :
    FrR w3 lo E e v' (css ++ dss) := by
  obtain ⟨h1, h2, h3⟩ := h
  have hv : ∀ g, v.ownBlock = some g → g < w.heap.size := fun g hg => (h1.lt g hg).2
  have hz := hb1.size
  refine ⟨cs ++ ds, ho, ((h2.below hb1).grown hg h3).append ((k.grown hg ?_).le hlo) ?_, ?_⟩
  · intro i u g hi hu he
    have := (k.blk hi hu).1
    have := hv g he
    omega
  · intro i j u u' g hi hj hu hu'
    have := (h2.blk hi hu).2
    have := (k.blk hj hu').1
    omega
  · intro i u g hi hu he
    have key : g < w1.heap.size ∧ v.ownBlock ≠ some g := by
      by_cases hl : i < cs.length
      · rw [List.getElem?_append_left hl] at hi
        exact ⟨by have := (h2.blk hi hu).2; omega, h3 i u g hi hu⟩
      · rw [List.getElem?_append_right (by omega)] at hi
        have := k.blk hi hu
        exact ⟨this.2, fun he => by have := hv g he; omega⟩
    rcases hp with hp | hp
    · exact key.2 (by rw [← hp]; exact he)
    · rw [hp] at he
      injection he with he
      omega

/-- All box positions of less than k heaps. -/
def allTo (size k : Nat) : List (List Int) := (List.range k).flatMap fun m => bx size m 1
theorem allTo_zero (size : Nat) : allTo size 0 = [] := rfl
theorem allTo_succ (size k : Nat) : allTo size (k + 1) = allTo size k ++ bx size k 1 := by
  unfold allTo
  rw [List.range_succ, List.flatMap_append]
  simp
theorem allTo_le (size : Nat) (hs : size ≤ 6) (k : Nat) (hk : k ≤ 7) : (allTo size k).length ≤ 823543 := by
  unfold allTo
  refine Nat.le_trans (flat_leB _ 117649 _ fun m hm => Nat.le_trans (bx_le size hs m 1) (pow7 m (by rw [List.mem_range] at hm; omega))) ?_
  rw [List.length_range]
  exact Nat.mul_le_mul_right 117649 hk

theorem oneCell_rows {w : World} {lo : Nat} {e : TypeId} {cs : List Value} {css : List (List Value)} (h : FrC w lo e cs css) : ∀ u ∈ cs, u.oneCell' = true := by
  intro u hu
  obtain ⟨i, hi, rfl⟩ := List.getElem_of_mem hu
  obtain ⟨Ai, ci, h1, _⟩ := h.2.1 i (by rw [← h.1]; exact hi)
  rw [List.getElem?_eq_getElem hi] at h1
  injection h1 with h1
  rw [h1]; rfl

set_option maxRecDepth 100000 in
set_option maxHeartbeats 1600000 in
theorem positions_any (size many : Nat) (hs : size ≤ 6) (hm : many ≤ 6) (w : World) :
    Calls Try.prog 51 #[.agg #[.int .i64 size, .int .i64 many]] w fun e w' =>
      ∃ A c, e = .returned (.slice A (allTo size (many + 1)).length c) ∧ FrR w' w.heap.size 22 3 (.slice A (allTo size (many + 1)).length c) ((allTo size (many + 1)).map ints) ∧ Below w.heap.size w w' := by
  go_enter Try.func51, Try.ntmps51
  go_wp2
  have hsz : (w.alloc (.cells #[.int .i64 size, .int .i64 many] 28)).heap.size = w.heap.size + 1 := by simp
  have hzW : w.heap.size < (w.alloc (.cells #[.int .i64 size, .int .i64 many] 28)).heap.size := by simp
  have hAW : Below w.heap.size w (w.alloc (.cells #[.int .i64 size, .int .i64 many] 28)) := (Below.refl _ _).alloc (Nat.le_refl _) _
  have c0W : (w.alloc (.cells #[.int .i64 size, .int .i64 many] 28)).cell? ⟨w.heap.size, 0, none⟩ = some (.int .i64 size) := by simp [go_sem]
  have c1W : (w.alloc (.cells #[.int .i64 size, .int .i64 many] 28)).cell? ⟨w.heap.size, 1, none⟩ = some (.int .i64 many) := by simp [go_sem]
  generalize w.alloc (.cells #[.int .i64 size, .int .i64 many] 28) = W at *
  rw [← hsz]
  clear hsz
  have q0 := ((Below.refl W.heap.size W).alloc (Nat.le_refl _) (.cells #[] 22)).cell (p := ⟨w.heap.size, 1, none⟩) hzW
  rw [c1W] at q0
  go_wp2
  go_loopw [3, 9] (fun v i wr => ∃ (k : Nat) (A' : Option Addr) (c' : Nat), i = .int .i64 k ∧ k ≤ many + 1 ∧ v = .slice A' (allTo size k).length c' ∧ FrR wr W.heap.size 22 3 (.slice A' (allTo size k).length c') ((allTo size k).map ints) ∧ Below W.heap.size W wr) (fun _ i _ => 8 - (intOf i).toNat)
  case atStart =>
    refine ⟨0, some ⟨W.heap.size, 0, none⟩, 0, rfl, by omega, rfl, ?_, (Below.refl _ _).alloc (Nat.le_refl _) _⟩
    exact FrR.nil (Own.empty W 22 22 _ (Nat.le_refl _))
  case round =>
    clear q0
    obtain ⟨k, A', c', rfl, hk, rfl, hf, hb⟩ := hrel
    have q0 := (hb.cell (p := ⟨w.heap.size, 0, none⟩) hzW).trans c0W
    have q1 := (hb.cell (p := ⟨w.heap.size, 1, none⟩) hzW).trans c1W
    have hzr := hb.size
    by_cases hlt : k < many + 1
    · have hltI : (k : Int) < (many : Int) + 1 := by omega
      have HPl : Hid ((allTo size k).length ≤ 823543) := allTo_le size hs k (by omega)
      have HL : Hid ((bx size k 1).length ≤ 117649) := Nat.le_trans (bx_le size hs k 1) (pow7 k (by omega))
      have HNext : Hid (allTo size (k + 1) = allTo size k ++ bx size k 1) := allTo_succ size k
      have hc := lists_any size many hs k 1 wr (by omega) (by omega)
      have HC := Lib.hid hc; clear hc
      generalize bx size k 1 = L at *
      generalize hP : allTo size k = P at *
      have HPe := Lib.hid hP; clear hP
      go_wp2_with fail
      refine HC.out.mono ?_; rintro e w1 ⟨A1, c1, rfl, hf1, hb1⟩
      obtain ⟨cs, hF⟩ := hf
      obtain ⟨ds, hD⟩ := hf1
      have hcl : cs.length = P.length := by rw [hF.2.1.1, List.length_map]
      have hdl : ds.length = L.length := by rw [hD.2.1.1, List.length_map]
      have hcd : cs.length + ds.length = P.length + L.length := by omega
      have HCD := Lib.hid hcd; have HCL := Lib.hid hcl; have HDL := Lib.hid hdl
      clear hcd hcl hdl
      have HF := Lib.hid hF; have HD := Lib.hid hD; clear hF hD
      have hz1 := hb1.size
      have HB := Lib.hid hb; have HB1 := Lib.hid hb1; clear hb hb1 q0 q1
      go_wp2_with (at_builtin; refine wpList_append_at rfl _ _ 63 22 (.slice none 0 0) 24 rfl Try.underlying63 infoRow rfl (by omega) W.heap.size (.slice A' P.length c') cs rfl (HF.out.1.below HB1.out) w1.heap.size A1 L.length c1 ds rfl HDL.out.symm HD.out.1.rd (oneCell_rows HD.out.2.1) (by have := HPl.out; have := HL.out; rw [HCD.out]; omega) (by omega) ?_; intro A6 c6 w6 ho6 hb7 hg6 hp6; rw [HCD.out] at ho6 hp6 ⊢)
      have hz6 := hb7.size
      go_roundw
      case rel =>
        have e2 : (allTo size (k + 1)).length = P.length + L.length := by rw [HNext.out, List.length_append]
        refine ⟨k + 1, A6, c6, by go_num, by omega, by rw [e2], ?_, HB.out.trans ((HB1.out.mono hzr).trans hb7)⟩
        rw [e2, HNext.out, List.map_append]
        exact FrR.join HF.out hzr HB1.out HD.out.2.1 ho6 hg6 hp6
      case measure => simp [intOf]; omega
    · obtain rfl : k = many + 1 := by omega
      go_wp2
      go_ret
      exact ⟨A', c', rfl, hf.le hAW.size, hAW.trans (hb.mono (by omega))⟩

set_option maxRecDepth 100000 in
set_option maxHeartbeats 1600000 in
theorem l20All_any (size many : Nat) (hs : size ≤ 6) (hm : many ≤ 6) (w : World) :
    Calls Try.prog 47 #[.agg #[.int .i64 size, .int .i64 many]] w fun e w' =>
      ∃ A c, e = .returned (.slice A (allTo size (many + 1)).length c) ∧ FrR w' w.heap.size 22 3 (.slice A (allTo size (many + 1)).length c) ((allTo size (many + 1)).map ints) ∧ Below w.heap.size w w' := by
  go_enter Try.func47, Try.ntmps47
  go_wp2
  have hsz : (w.alloc (.cells #[.int .i64 size, .int .i64 many] 28)).heap.size = w.heap.size + 1 := by simp
  have hzW : w.heap.size < (w.alloc (.cells #[.int .i64 size, .int .i64 many] 28)).heap.size := by simp
  have hAW : Below w.heap.size w (w.alloc (.cells #[.int .i64 size, .int .i64 many] 28)) := (Below.refl _ _).alloc (Nat.le_refl _) _
  have c0W : (w.alloc (.cells #[.int .i64 size, .int .i64 many] 28)).cell? ⟨w.heap.size, 0, none⟩ = some (.int .i64 size) := by simp [go_sem]
  have c1W : (w.alloc (.cells #[.int .i64 size, .int .i64 many] 28)).cell? ⟨w.heap.size, 1, none⟩ = some (.int .i64 many) := by simp [go_sem]
  generalize w.alloc (.cells #[.int .i64 size, .int .i64 many] 28) = W at *
  rw [← hsz]
  clear hsz
  go_loopw [3, 4] (fun v i wr => ∃ (k : Nat) (A' : Option Addr) (c' : Nat), i = .int .i64 k ∧ k ≤ many + 1 ∧ v = .slice A' (allTo size k).length c' ∧ FrR wr W.heap.size 22 3 (.slice A' (allTo size k).length c') ((allTo size k).map ints) ∧ Below W.heap.size W wr) (fun _ i _ => 8 - (intOf i).toNat)
  case atStart =>
    refine ⟨0, some ⟨W.heap.size, 0, none⟩, 0, rfl, by omega, rfl, ?_, (Below.refl _ _).alloc (Nat.le_refl _) _⟩
    exact FrR.nil (Own.empty W 22 22 _ (Nat.le_refl _))
  case round =>
    obtain ⟨k, A', c', rfl, hk, rfl, hf, hb⟩ := hrel
    have q0 := (hb.cell (p := ⟨w.heap.size, 0, none⟩) hzW).trans c0W
    have q1 := (hb.cell (p := ⟨w.heap.size, 1, none⟩) hzW).trans c1W
    have hzr := hb.size
    by_cases hlt : k < many + 1
    · have hltI : (k : Int) ≤ (many : Int) := by omega
      have HPl : Hid ((allTo size k).length ≤ 823543) := allTo_le size hs k (by omega)
      have HL : Hid ((bx size k 1).length ≤ 117649) := Nat.le_trans (bx_le size hs k 1) (pow7 k (by omega))
      have HNext : Hid (allTo size (k + 1) = allTo size k ++ bx size k 1) := allTo_succ size k
      have hc := heaps_any size hs k 1 wr (by omega) (by omega)
      have HC := Lib.hid hc; clear hc
      generalize bx size k 1 = L at *
      generalize hP : allTo size k = P at *
      have HPe := Lib.hid hP; clear hP
      go_wp2_with fail
      refine HC.out.mono ?_; rintro e w1 ⟨A1, c1, rfl, hf1, hb1⟩
      obtain ⟨cs, hF⟩ := hf
      obtain ⟨ds, hD⟩ := hf1
      have hcl : cs.length = P.length := by rw [hF.2.1.1, List.length_map]
      have hdl : ds.length = L.length := by rw [hD.2.1.1, List.length_map]
      have HCL := Lib.hid hcl; have HDL := Lib.hid hdl
      clear hcl hdl
      have hz1 := hb1.size
      obtain ⟨B1, hB1⟩ : ∃ B1, B1 = w1.heap.size := ⟨_, rfl⟩
      obtain ⟨lo1, hlo1⟩ : ∃ lo1, lo1 = wr.heap.size := ⟨_, rfl⟩
      have hrd : Rd w1 B1 A1 c1 ds := by rw [hB1]; exact hD.1.rd
      have hcap := hrd.1
      have hcm := hrd.max
      rw [HDL.out] at hcap
      have hlA : Lo lo1 A1 := by rw [hlo1]; exact Lo.own hD.1
      have hCS : FrC w1 W.heap.size 3 cs (P.map ints) := hF.2.1.below hb1
      have hDS : FrC w1 lo1 3 ds (L.map ints) := by rw [hlo1]; exact hD.2.1
      have hcsb : Hid (∀ (i : Nat) (u : Value) (g : Nat), cs[i]? = some u → u.ownBlock = some g → g < lo1) := fun i u g hi hu => by rw [hlo1]; exact (hF.2.1.blk hi hu).2
      have hdsb : Hid (∀ (i : Nat) (u : Value) (g : Nat), ds[i]? = some u → u.ownBlock = some g → lo1 ≤ g ∧ g < B1) := fun i u g hi hu => by rw [hB1]; exact hDS.blk hi hu
      have hvb : ∀ g, (Value.slice A' P.length c').ownBlock = some g → g < lo1 ∨ B1 ≤ g := fun g hg => .inl (by rw [hlo1]; exact (hF.1.lt g hg).2)
      have hsep : ∀ (i : Nat) (u : Value) (g : Nat), cs[i]? = some u → u.ownBlock = some g → (Value.slice A' P.length c').ownBlock ≠ some g := hF.2.2
      have hOw : Own w1 W.heap.size 22 (.slice A' P.length c') cs := hF.1.below hb1
      have hb2 := hb.trans (hb1.mono hzr)
      clear hF hD hb hb1 q0 q1
      go_wp2
      go_loopw [3, 6] (fun v i wi => ∃ (j : Nat) (A' : Option Addr) (c' : Nat), i = .int .i64 j ∧ j ≤ L.length ∧ v = .slice A' (P.length + j) c' ∧ Own wi W.heap.size 22 (.slice A' (P.length + j) c') (cs ++ ds.take j) ∧ FrC wi W.heap.size 3 cs (P.map ints) ∧ FrC wi lo1 3 ds (L.map ints) ∧ Rd wi B1 A1 c1 ds ∧
        (∀ (i : Nat) (u : Value) (g : Nat), cs[i]? = some u → u.ownBlock = some g → (Value.slice A' (P.length + j) c').ownBlock ≠ some g) ∧ (∀ g, (Value.slice A' (P.length + j) c').ownBlock = some g → g < lo1 ∨ B1 ≤ g) ∧ Below W.heap.size W wi ∧ B1 ≤ wi.heap.size) (fun _ i _ => L.length - (intOf i).toNat)
      case atStart => exact ⟨0, A', c', rfl, by omega, rfl, by simpa using hOw, hCS, hDS, hrd, hsep, hvb, hb2, by omega⟩
      case round =>
        clear hOw hCS hDS hrd hsep hvb hb2
        obtain ⟨j, A2, c2, rfl, hj, rfl, hOw, hCS, hDS, hrd, hsep, hvb, hb, hzi⟩ := hrel
        have hLl := HL.out
        by_cases hlt : j < L.length
        · obtain ⟨b, o, rfl, hbB, hc⟩ := hrd.at (j := j) (by rw [HDL.out]; exact hlt)
          obtain ⟨Aj, cj, k1, k2⟩ := hDS.2.1 j (by rw [List.length_map]; exact hlt)
          rw [gc_ints, ints_len] at k1
          have hcj := hc j _ k1
          clear hc k2
          have E6 : Hid (∀ u : Value, (cs ++ ds.take j).length + [u].length = P.length + (j + 1)) := fun u => by rw [List.length_append, List.length_take, HCL.out, HDL.out, List.length_singleton]; omega
          have E7 : Hid (cs ++ ds.take j ++ [.slice Aj (gl L j).length cj] = cs ++ ds.take (j + 1)) := by
            show _ = _
            rw [List.take_add_one, k1, List.append_assoc]; rfl
          have E8 : Hid ((cs ++ ds.take j).length ≤ 1000000) := by
            show _ ≤ _
            rw [List.length_append, List.length_take, HCL.out, HDL.out]; have := HPl.out; omega
          have HOw := Lib.hid hOw; have HCS := Lib.hid hCS; have HDS := Lib.hid hDS; have HRd := Lib.hid hrd; have HSep := Lib.hid hsep; have HVb := Lib.hid hvb; have HK1 := Lib.hid k1
          clear hOw hCS hDS hrd hsep hvb k1
          have hzw := hb.size
          go_wp2_with (at_builtin; refine wpList_append_at rfl _ _ 63 22 (.slice none 0 0) 24 rfl Try.underlying63 infoRow rfl (by omega) W.heap.size (.slice A2 (P.length + j) c2) (cs ++ ds.take j) rfl (HOw.out.below ((Below.refl _ _).alloc (Nat.le_refl _) _)) (wr.heap.size + 1) (some ⟨wr.heap.size, 0, none⟩) 1 1 [.slice Aj _ cj] rfl rfl (Rd.of_blk (Blk.new _ _ _) (Nat.lt_succ_self _)) (fun u hu => by simp at hu; subst hu; rfl) (by have := E8.out; simp at this ⊢; omega) (by simp; omega) ?_; intro A6 c6 w6 ho6 hb7 hg6 hp6; rw [E6.out] at ho6 hp6 ⊢; rw [E7.out] at ho6)
          have hz6 := hb7.size
          have hzA : (wr.alloc (.cells #[.slice Aj (gl L j).length cj] 22)).heap.size = wr.heap.size + 1 := by simp
          have hbA : Below wr.heap.size wr (wr.alloc (.cells #[.slice Aj (gl L j).length cj] 22)) := (Below.refl _ _).alloc (Nat.le_refl _) _
          go_roundw
          case rel =>
            have hdne : ∀ (i : Nat) (u : Value) (g : Nat), ds[i]? = some u → u.ownBlock = some g → (Value.slice A2 (P.length + j) c2).ownBlock ≠ some g := fun i u g hi hu he => by
              have h1 := hdsb.out i u g hi hu
              rcases HVb.out g he with h2 | h2 <;> omega
            refine ⟨j + 1, A6, c6, by go_num, by omega, rfl, ho6, (HCS.out.below hbA).grown hg6 HSep.out, (HDS.out.below hbA).grown hg6 hdne, Rd.grown (HRd.out.below hbA hzi) hlA hg6 (by omega) (fun g hg => HVb.out g hg), ?_, ?_, hb.trans ((hbA.mono hzw).trans hb7), by omega⟩
            · intro i u g hi hu he
              rcases hp6 with h' | h'
              · rw [h'] at he; exact HSep.out i u g hi hu he
              · rw [h'] at he
                injection he with he
                have := hcsb.out i u g hi hu
                omega
            · intro g hg
              rcases hp6 with h' | h'
              · rw [h'] at hg; exact HVb.out g hg
              · rw [h'] at hg
                injection hg with hg
                omega
          case measure => simp [intOf]; omega
        · obtain rfl : j = L.length := by omega
          have HOw := Lib.hid hOw; have HCS := Lib.hid hCS; have HDS := Lib.hid hDS; have HSep := Lib.hid hsep; have HVb := Lib.hid hvb
          clear hOw hCS hDS hrd hsep hvb
          go_wp2
          go_roundw
          case rel =>
            have e2 : (allTo size (k + 1)).length = P.length + L.length := by rw [HNext.out, List.length_append]
            refine ⟨k + 1, A2, c2, by go_num, by omega, by rw [e2], ?_, hb⟩
            rw [e2, HNext.out, List.map_append]
            have ho := HOw.out
            rw [List.take_of_length_le (by rw [HDL.out]; exact Nat.le_refl _)] at ho
            refine ⟨cs ++ ds, ho, HCS.out.append (HDS.out.le (by omega)) ?_, ?_⟩
            · intro i j u u' g hi hj hu hu'
              have h1 := hcsb.out i u g hi hu
              have h2 := hdsb.out j u' g hj hu'
              omega
            · intro i u g hi hu he
              by_cases hl : i < cs.length
              · rw [List.getElem?_append_left hl] at hi; exact HSep.out i u g hi hu he
              · rw [List.getElem?_append_right (by omega)] at hi
                have h1 := hdsb.out _ u g hi hu
                rcases HVb.out g he with h2 | h2 <;> omega
          case measure => simp [intOf]; omega
    · obtain rfl : k = many + 1 := by omega
      go_wp2
      go_ret
      exact ⟨A', c', rfl, hf.le hAW.size, hAW.trans (hb.mono (by omega))⟩
end Go.Proofs.Ytbledcogbkeneaa
