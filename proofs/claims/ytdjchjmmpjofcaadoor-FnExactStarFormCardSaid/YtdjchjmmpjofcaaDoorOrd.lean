/- The order of a star and its subpositions: the program's order, by contract. Conditions: none. -/
import Derived.Test.YtdjchjmmpjofcaaDoorRnk
import Derived.Test.YtdjchjmmpjofcaaDoorFrN
import Derived.Test.YtdjchjmmpjofcaaDoorQTail
namespace Go.Proofs.YtdjchjmmpjofcaaDoor
open Go.RowKit Go.Maps
set_option linter.unusedVariables false

theorem PR.more {w : World} {B B' p n gL gR gB cL cR cB : Nat} (h : PR w B p n gL gR gB cL cR cB) (hB : B ≤ B') : PR w B' p n gL gR gB cL cR cB :=
  ⟨Nat.lt_of_lt_of_le h.pl hB, Nat.lt_of_lt_of_le h.ll hB, Nat.lt_of_lt_of_le h.rl hB, Nat.lt_of_lt_of_le h.bl hB, h.lc, h.rc, h.bc, h.c0, h.c1, h.c2,
    fun i hi => by obtain ⟨A, c, h1, h2⟩ := h.left i hi; exact ⟨A, c, h1, Rd.more h2 hB⟩, fun i hi => by obtain ⟨A, c, h1, h2⟩ := h.right i hi; exact ⟨A, c, h1, Rd.more h2 hB⟩, h.born⟩
theorem make_nodes {w : World} {ops : Array Oper} {rest : List Oper} {o : Oper} {a : Act} {Q : Exit → Act → World → Prop} (hg : o.guard = none) (l c : Operand)
    (hop : o.op = Op.makeSlice 22 l c) (n : Nat) (C : Int) (hC : C = (n : Int)) (hl : a.eval l = .int .i64 0) (hc : a.eval c = .int .i64 C) (hb : n ≤ 1000000)
    (hK : ∀ w', FrN w' w.heap.size (.slice (some ⟨w.heap.size, 0, none⟩) 0 n) 0 [] [] (([] : List (List Int)).map ints) → Below w.heap.size w w' → wpList Tryd.prog ops Q rest (a.put o.dst (.slice (some ⟨w.heap.size, 0, none⟩) 0 n)) w') :
    wpList Tryd.prog ops Q (o :: rest) a w := by
  obtain ⟨i0, hi, hz0, hz1, hz2⟩ := info_parts infoNode
  refine wpList_make_own w hg l c 22 hop w.heap.size 40 i0 (.agg #[.slice none 0 0, .slice none 0 0]) 2 Tryd.underlying22 hi hz0 hz1 .i64 .i64 C n hl hc hC (by rw [hz2]; omega) (by unfold maxLen; omega) (Nat.le_refl _) ?_
  intro w' ho hgr
  exact hK w' ⟨ho, ⟨rfl, fun i hi => by simp at hi, fun i j u u' g hi => by simp at hi⟩, fun i u g hi => by simp at hi⟩ (below_of_grown hgr)

theorem RankM.belowB {w w' : World} {b k B : Nat} (h : RankM w b k) (hb : Below B w w') (hlt : b < B) : RankM w' b k := by
  obtain ⟨D, ⟨es, clock, h1, r⟩, h2⟩ := h
  exact ⟨D, ⟨es, clock, (hb.block b hlt).trans h1, r⟩, h2⟩
theorem Own.belowB {w w' : World} {base B : Nat} {E : TypeId} {v : Value} {cs : List Value} (h : Own w base E v cs) (hb : Below B w w') (hlt : ∀ g, v.ownBlock = some g → g < B) : Own w' base E v cs :=
  ownsRow_below h hb hlt
theorem rng_set (m f : Nat) (h : f < m) : (rng m).set f (f : Int) = rng m := by
  have e : (rng m)[f]'(by rw [rng_len]; exact h) = (f : Int) := by simp [rng]
  rw [← e]
  exact List.set_getElem_self (by rw [rng_len]; exact h)
theorem own_same {w : World} {base gl m c f : Nat} (h : Own w base 3 (.slice (some ⟨gl, 0, none⟩) m c) (ints (rng m))) (hf : f < m) : Own (w.setCell ⟨gl, f, none⟩ (.int .i64 (f : Int))) base 3 (.slice (some ⟨gl, 0, none⟩) m c) (ints (rng m)) := by
  have h1 : w.ownsRow base 3 1 (.slice (some ⟨gl, 0, none⟩) m c) m (ints (rng m)) := by
    have := h
    unfold Own at this
    rw [ints_len, rng_len] at this
    exact this
  have h2 := (h1.stored f (.int .i64 (f : Int))).1
  rw [ints_set, rng_set m f hf] at h2
  unfold Own
  rw [ints_len, rng_len]
  exact h2
theorem neNE : 40 ≠ 60 := by decide
theorem neIE : 3 ≠ 60 := by decide
theorem infoEntry : (Tryd.prog.info? 60).map (fun i => (i.zero, i.size, i.bytes)) = some (some (.agg #[.int .i64 0, .slice none 0 0, .slice none 0 0]), 3, 56) := by kernel_rfl

set_option maxRecDepth 100000 in
set_option maxHeartbeats 6400000 in
theorem order_any (p n gL gR gB cL cR cB r : Nat) (w : World) (hn : n ≤ 15) (hP : PR w w.heap.size p n gL gR gB cL cR cB) (hr : w.cell? ⟨r, 0, none⟩ = some (.int .i64 (n : Int))) (hrl : r < w.heap.size) :
    Calls Tryd.prog 19 #[.pointer (some ⟨p, 0, none⟩), .slice (some ⟨r, 0, none⟩) 1 1] w fun e w' => ∃ v A c cs, e = .returned (.tuple #[v, .slice A (n + 1) c]) ∧ FrN w' w.heap.size (.slice A (n + 1) c) (n + 1) cs cs ((nodesC (n + 1)).map ints) ∧ Below w.heap.size w w' := by
  have hmk : ∀ (t : TypeId) (w : World), (Instr.makeMap t none).run Tryd.prog w = .ok (.map (some w.heap.size)) (w.alloc (.map #[] 0)) := fun t w => run_makeMap t w
  have HP := Lib.hid hP
  have HB1 := Lib.hid (bel1 w (.cells #[.pointer (some ⟨p, 0, none⟩)] 32))
  have HT2 := Lib.hid (Blk.new w 32 #[.pointer (some ⟨p, 0, none⟩)])
  have hz1 : (w.alloc (.cells #[.pointer (some ⟨p, 0, none⟩)] 32)).heap.size = w.heap.size + 1 := by simp
  have HP1 := Lib.hid ((hP.below HB1.out (Nat.le_refl _)).more HB1.out.size)
  have HPT := Lib.hid (parts_any p n gL gR gB cL cR cB r (w.alloc (.cells #[.pointer (some ⟨p, 0, none⟩)] 32)) hn HP1.out ((HB1.out.cell (p := ⟨r, 0, none⟩) hrl).trans hr) (by omega))
  clear hP hr hrl
  go_enter Tryd.func19, Tryd.ntmps19
  go_wp2_with fail
  generalize w.alloc (.cells #[.pointer (some ⟨p, 0, none⟩)] 32) = w1 at *
  have ht2 : w1.cell? ⟨w.heap.size, 0, none⟩ = some (.pointer (some ⟨p, 0, none⟩)) := HT2.out.cell 0
  ((with_reducible refine HPT.out.mono ?_); rintro e w2 ⟨A, c, rfl, ho2, hb2⟩)
  obtain ⟨gl, rfl, -, hgl, hgl2, -, -⟩ := ho2.at (by rw [ints_len, nlist_len]; omega)
  have HSO := Lib.hid (sortL_any gl c w1.heap.size n w.heap.size p gL gR gB cL cR cB w1.heap.size w2 hn hgl (by omega) hb2.size (HP1.out.below hb2 (Nat.le_refl _)) ((hb2.cell (p := ⟨w.heap.size, 0, none⟩) (by show w.heap.size < _; omega)).trans ht2) ho2)
  clear HPT ht2 ho2
  go_wp2_with (first | (go_at_call 24; (with_reducible refine HSO.out.mono ?_); rintro e w3 ⟨rfl, ho3, hg3⟩) | (refine make_nodes rfl _ _ rfl (n + 1) _ (by omega) rfl rfl (by omega) ?_; intro w5 hN5 hb5))
  have hz3 := hg3.size
  have hz2 := hb2.size
  have hb4 := bel1 w3 (.map #[] 0)
  have hz4 : (w3.alloc (.map #[] 0)).heap.size = w3.heap.size + 1 := by simp
  have hz5 := hb5.size
  have HL5 := Lib.hid ((ho3.below hb4).below hb5)
  have HR5 := Lib.hid ((RankM.new w3).kept (grown_below hb5 none) (by simp))
  have HB5 := Lib.hid ((((hb2.grown hg3 hz2 (fun g hg => by injection hg with hg; omega)).trans (hb4.mono (by omega))).trans (hb5.mono (by omega))))
  have HN5 := Lib.hid hN5
  clear HSO ho3 hg3 hN5 hb5 hb4 hb2
  obtain ⟨mr, hmr⟩ : ∃ mr, mr = w3.heap.size := ⟨_, rfl⟩
  obtain ⟨lo, hlo⟩ : ∃ lo, lo = (w3.alloc (.map #[] 0)).heap.size := ⟨_, rfl⟩
  rw [← hlo] at HN5 hz5
  have hgl3 : gl < lo := by omega
  have hmr3 : mr < lo := by omega
  rw [← hmr] at HR5 ⊢
  have hB1w : w1.heap.size ≤ lo := by omega
  have hmr1 : w1.heap.size ≤ mr := by omega
  have HV5 : Hid (FrN w5 lo (.slice (some ⟨mr + 1, 0, none⟩) 0 (n + 1)) 0 [] [] (([] : List (List Int)).map ints)) := Lib.hid (by
    have := HN5.out
    rw [hlo, hz4, ← hmr] at this
    rw [hlo, hz4, ← hmr]
    exact this)
  clear hmr hlo HN5 hz4 hmk hz3 hz2 hgl2
  go_loopw [8, 9] (fun x i wr => ∃ (f c2 : Nat) (A : Option Addr) (cs : List Value), i = .int .i64 f ∧ f ≤ n + 1 ∧ x = .slice A f c2 ∧ FrN wr lo (.slice A f c2) f cs cs ((nodesC f).map ints) ∧ RankM wr mr f ∧ Own wr w1.heap.size 3 (.slice (some ⟨gl, 0, none⟩) (n + 1) c) (ints (rng (n + 1))) ∧ Below w1.heap.size w1 wr ∧ lo ≤ wr.heap.size) (fun _ i _ => n + 1 - (intOf i).toNat)
  case atStart => exact ⟨0, _, _, [], rfl, by omega, rfl, HV5.out, HR5.out, HL5.out, HB5.out, hz5⟩
  case round =>
    clear HV5 HR5 HL5 HB5
    obtain ⟨f, c2, AN, cs, rfl, hf, rfl, hN, hR, hL, hB, hzr⟩ := hrel
    have HN := Lib.hid hN
    have HR := Lib.hid hR
    have HL := Lib.hid hL
    have HB := Lib.hid hB
    by_cases hlt : f < n + 1
    · have hltI : (f : Int) < (n : Int) + 1 := by omega
      have hge : Own (wr.alloc (.cells #[] 60)) wr.heap.size 60 (.slice (some ⟨wr.heap.size, 0, none⟩) 0 0) [] := Own.of_blk (Blk.new _ _ _) (Nat.le_refl _)
      have HG0 : Hid ((wr.alloc (.cells #[] 60)).ownsRow lo 60 3 (.slice (some ⟨wr.heap.size, 0, none⟩) 0 0) 0 []) := Lib.hid (ownsK_le (ownsK_empty wr 60 3 wr.heap.size (Nat.le_refl _)) hzr)
      have hbe := bel1 wr (.cells #[] 60)
      have HN0 := Lib.hid (hN.below hbe)
      have HR0 := Lib.hid (hR.kept (grown_below hbe none) (by simp))
      have HL0 := Lib.hid (hL.below hbe)
      have HB0 := Lib.hid (hB.trans (hbe.mono hB.size))
      have hz0 : lo ≤ (wr.alloc (.cells #[] 60)).heap.size := Nat.le_trans hzr hbe.size
      clear hN hR hL hB hge hbe HN HR HL HB
      go_wp2_with fail
      generalize wr.alloc (.cells #[] 60) = W0 at *
      obtain ⟨wq, rfl⟩ : ∃ wq, wq = wr := ⟨_, rfl⟩
      go_loopw [10, 11] (fun x i wr => ∃ (m cg : Nat) (Ag : Option Addr) (ex rows : List Value) (xss : List (List Int)), i = .int .i64 ((f + m : Nat) : Int) ∧ m ≤ 1 ∧ x = .slice Ag m cg ∧ wr.ownsRow lo 60 3 (.slice Ag m cg) m ex ∧ FrN wr lo (.slice AN f c2) f cs rows (xss.map ints) ∧ ((m = 0 ∧ ex = [] ∧ rows = cs ∧ xss = nodesC f) ∨ (m = 1 ∧ ∃ x1 y1 x2 y2 : Nat, ex = [.int .i64 (f : Int), .slice (some ⟨x1, 0, none⟩) f y1, .slice (some ⟨x2, 0, none⟩) f y2] ∧ rows = cs ++ [.slice (some ⟨x1, 0, none⟩) f y1] ++ [.slice (some ⟨x2, 0, none⟩) f y2] ∧ xss = nodesC (f + 1))) ∧ RankM wr mr f ∧ Own wr w1.heap.size 3 (.slice (some ⟨gl, 0, none⟩) (n + 1) c) (ints (rng (n + 1))) ∧ Below w1.heap.size w1 wr ∧ lo ≤ wr.heap.size) (fun _ i _ => f + 1 - (intOf i).toNat)
      case atStart => exact ⟨0, _, _, [], cs, nodesC f, rfl, by omega, rfl, HG0.out, HN0.out, Or.inl ⟨rfl, rfl, rfl, rfl⟩, HR0.out, HL0.out, HB0.out, hz0⟩
      case round =>
        clear HG0 HN0 HR0 HL0 HB0 hz0 hzr
        obtain ⟨m, cg, Ag, ex, rows, xss, rfl, hm1, rfl, hG, hN, hm, hR, hL, hB, hzr⟩ := hrel
        have HP2 := HP1.out.below hB (Nat.le_refl _)
        have q0 : wr.cell? ⟨w.heap.size, 0, none⟩ = some (.pointer (some ⟨p, 0, none⟩)) := (hB.cell (p := ⟨w.heap.size, 0, none⟩) (by show w.heap.size < _; omega)).trans (HT2.out.cell 0)
        have q2 := HP2.c2
        have hbc := HP2.bc
        obtain ⟨gl', hA1, -, -, -, hcl, -⟩ := hL.at (by rw [ints_len, rng_len]; omega)
        injection hA1 with hA1
        injection hA1 with hA1
        subst hA1
        have hcc : n + 1 ≤ c := by have := hL.rd.len; rw [ints_len, rng_len] at this; exact this
        have l0 : wr.cell? ⟨gl, f, none⟩ = some (.int .i64 (f : Int)) := by rw [hcl f _ (ints_at _ f (by rw [rng_len]; omega)), gi_rng _ f (by omega)]
        have b0 := HP2.born f (by omega)
        have HG := Lib.hid hG
        have HN := Lib.hid hN
        have HR := Lib.hid hR
        have HL := Lib.hid hL
        have HB := Lib.hid hB
        rcases hm with ⟨rfl, rfl, rfl, rfl⟩ | ⟨rfl, x1, y1, x2, y2, rfl, rfl, rfl⟩
        · obtain ⟨A1, c1, hA1, hRD1⟩ := HP2.left f (by omega)
          obtain ⟨A2, c3, hA2, hRD2⟩ := HP2.right f (by omega)
          have p0 := HP2.c0
          have p1 := HP2.c1
          have hlc := HP2.lc
          have hrc := HP2.rc
          have HRD1 := Lib.hid hRD1
          have HRD2 := Lib.hid hRD2
          have HBD := Lib.hid hB.size
          have HS := Lib.hid fun W (h : Below lo wr W) => And.intro ((h.cell (p := ⟨w.heap.size, 0, none⟩) (by show w.heap.size < lo; omega)).trans q0) (And.intro ((h.cell (p := ⟨p, 0, none⟩) (Nat.lt_of_lt_of_le HP1.out.pl hB1w)).trans p0) (And.intro ((h.cell (p := ⟨p, 1, none⟩) (Nat.lt_of_lt_of_le HP1.out.pl hB1w)).trans p1) (And.intro ((h.cell (p := ⟨gL, f, none⟩) (Nat.lt_of_lt_of_le HP1.out.ll hB1w)).trans hA1) ((h.cell (p := ⟨gR, f, none⟩) (Nat.lt_of_lt_of_le HP1.out.rl hB1w)).trans hA2))))
          have HK1 := Lib.hid fun W (h : Below wr.heap.size wr W) => ranked_any A1 c1 f mr f W w1.heap.size (Nat.le_refl _) (by omega) (Nat.le_trans hB.size h.size) (RdI.below hRD1 h hB.size) (hR.kept (grown_below h none) (by simp))
          have HK2 := Lib.hid fun W (h : Below wr.heap.size wr W) => ranked_any A2 c3 f mr f W w1.heap.size (Nat.le_refl _) (by omega) (Nat.le_trans hB.size h.size) (RdI.below hRD2 h hB.size) (hR.kept (grown_below h none) (by simp))
          clear hcl HP2 hG hN hR hL hB hRD1 hRD2 HRD1 HRD2
          simp only [Nat.add_zero]
          go_wp2_with fail
          go_quiet (fail)
          go_wp2_with fail
          refine wp_region_noPanic ?_
          refine wp_region_held_drew (S := fun W' => W'.cell? ⟨w.heap.size, 0, none⟩ = some (.pointer (some ⟨p, 0, none⟩)) ∧ W'.cell? ⟨p, 0, none⟩ = some (.slice (some ⟨gL, 0, none⟩) (n + 1) cL) ∧ W'.cell? ⟨p, 1, none⟩ = some (.slice (some ⟨gR, 0, none⟩) (n + 1) cR) ∧ W'.cell? ⟨gL, f, none⟩ = some (.slice A1 f c1) ∧ W'.cell? ⟨gR, f, none⟩ = some (.slice A2 f c3)) (by kernel_rfl) ⟨q0, p0, p1, hA1, hA2⟩ (fun hHeld => ?_)
          refine wpAnyH_take (i := 0) (oi := ⟨some 64, _, _, _, _, _⟩) (v := ?vta0) rfl (by kernel_rfl) (by kernel_rfl) (by kernel_rfl) (fun _ _ _ h => h) (Or.inl ⟨by kernel_rfl, ?hya0⟩) (by assumption) ?_
          case hya0 => (intro wh hSw; (try dsimp only at hSw); go_simp; try with_reducible rfl)
          simp only [Act.put, List.setIfInBounds_toArray, List.set_cons_zero, List.set_cons_succ]
          refine wpAnyH_take (i := 1) (oi := ⟨some 65, _, _, _, _, _⟩) (v := ?vta1) rfl (by kernel_rfl) (by kernel_rfl) (by kernel_rfl) (fun _ _ _ h => h) (Or.inl ⟨by kernel_rfl, ?hya1⟩) (by assumption) ?_
          case hya1 => (intro wh hSw; (try dsimp only at hSw); go_simp; try with_reducible rfl)
          simp only [Act.put, List.setIfInBounds_toArray, List.set_cons_zero, List.set_cons_succ]
          refine wpAnyH_take (i := 2) (oi := ⟨some 66, _, _, _, _, _⟩) (v := ?vta2) rfl (by kernel_rfl) (by kernel_rfl) (by kernel_rfl) (fun _ _ _ h => h) (Or.inl ⟨by kernel_rfl, ?hya2⟩) (by assumption) ?_
          case hya2 => (intro wh hSw; (try dsimp only at hSw); go_simp; try with_reducible rfl)
          simp only [Act.put, List.setIfInBounds_toArray, List.set_cons_zero, List.set_cons_succ]
          refine wpAnyH_take (i := 3) (oi := ⟨some 67, _, _, _, _, _⟩) (v := ?vta3) rfl (by kernel_rfl) (by kernel_rfl) (by kernel_rfl) (fun _ _ _ h => h) (Or.inl ⟨by kernel_rfl, ?hya3⟩) (by assumption) ?_
          case hya3 => (intro wh hSw; (try dsimp only at hSw); go_simp; try with_reducible rfl)
          simp only [Act.put, List.setIfInBounds_toArray, List.set_cons_zero, List.set_cons_succ]
          refine wpAnyH_take (i := 4) (oi := ⟨some 68, _, _, _, _, _⟩) (v := ?vta4) rfl (by kernel_rfl) (by kernel_rfl) (by kernel_rfl) (fun _ _ _ h => h) (Or.inl ⟨by kernel_rfl, ?hya4⟩) (by assumption) ?_
          case hya4 => (intro wh hSw; (try dsimp only at hSw); go_simp; try with_reducible rfl)
          simp only [Act.put, List.setIfInBounds_toArray, List.set_cons_zero, List.set_cons_succ]
          refine wpAnyH_take (i := 5) (oi := ⟨some 69, _, _, _, _, _⟩) (v := ?vta5) rfl (by kernel_rfl) (by kernel_rfl) (by kernel_rfl) (fun _ _ _ h => h) (Or.inl ⟨by kernel_rfl, ?hya5⟩) (by assumption) ?_
          case hya5 => (intro wh hSw; (try dsimp only at hSw); go_simp; try with_reducible rfl)
          simp only [Act.put, List.setIfInBounds_toArray, List.set_cons_zero, List.set_cons_succ]
          refine wpAnyH_take (i := 6) (oi := ⟨some 70, _, _, _, _, _⟩) (v := ?vta6) rfl (by kernel_rfl) (by kernel_rfl) (by kernel_rfl) (fun _ _ _ h => h) (Or.inl ⟨by kernel_rfl, ?hya6⟩) (by assumption) ?_
          case hya6 => (intro wh hSw; (try dsimp only at hSw); go_simp; try with_reducible rfl)
          simp only [Act.put, List.setIfInBounds_toArray, List.set_cons_zero, List.set_cons_succ]
          refine wpAnyH_take (i := 7) (oi := ⟨some 71, _, _, _, _, _⟩) (v := ?vta7) rfl (by kernel_rfl) (by kernel_rfl) (by kernel_rfl) (fun _ _ _ h => h) (Or.inl ⟨by kernel_rfl, ?hya7⟩) (by assumption) ?_
          case hya7 => (intro wh hSw; (try dsimp only at hSw); go_simp; try with_reducible rfl)
          simp only [Act.put, List.setIfInBounds_toArray, List.set_cons_zero, List.set_cons_succ]
          refine wpAnyH_take (i := 8) (oi := ⟨some 72, _, _, _, _, _⟩) (v := ?vta8) rfl (by kernel_rfl) (by kernel_rfl) (by kernel_rfl) (fun _ _ _ h => h) (Or.inl ⟨by kernel_rfl, ?hya8⟩) (by assumption) ?_
          case hya8 => (intro wh hSw; (try dsimp only at hSw); go_simp; try with_reducible rfl)
          simp only [Act.put, List.setIfInBounds_toArray, List.set_cons_zero, List.set_cons_succ]
          refine wpAnyH_take (i := 9) (oi := ⟨some 73, _, _, _, _, _⟩) (v := ?vta9) rfl (by kernel_rfl) (by kernel_rfl) (by kernel_rfl) (fun _ _ _ h => h) (Or.inl ⟨by kernel_rfl, ?hya9⟩) (by assumption) ?_
          case hya9 => (intro wh hSw; (try dsimp only at hSw); go_simp; try with_reducible rfl)
          simp only [Act.put, List.setIfInBounds_toArray, List.set_cons_zero, List.set_cons_succ]
          refine wpAnyH_take (i := 11) (oi := ⟨some 75, _, _, _, _, _⟩) (v := ?vta11) rfl (by kernel_rfl) (by kernel_rfl) (by kernel_rfl) (fun _ _ _ h => h) (Or.inl ⟨by kernel_rfl, ?hya11⟩) (by assumption) ?_
          case hya11 => (intro wh hSw; (try dsimp only at hSw); go_simp; try with_reducible rfl)
          simp only [Act.put, List.setIfInBounds_toArray, List.set_cons_zero, List.set_cons_succ]
          refine wpAnyH_take (i := 12) (oi := ⟨some 76, _, _, _, _, _⟩) (v := ?vta12) rfl (by kernel_rfl) (by kernel_rfl) (by kernel_rfl) (fun _ _ _ h => h) (Or.inl ⟨by kernel_rfl, ?hya12⟩) (by assumption) ?_
          case hya12 => (intro wh hSw; (try dsimp only at hSw); go_simp; try with_reducible rfl)
          simp only [Act.put, List.setIfInBounds_toArray, List.set_cons_zero, List.set_cons_succ]
          refine wpAnyH_take (i := 13) (oi := ⟨some 77, _, _, _, _, _⟩) (v := ?vta13) rfl (by kernel_rfl) (by kernel_rfl) (by kernel_rfl) (fun _ _ _ h => h) (Or.inl ⟨by kernel_rfl, ?hya13⟩) (by assumption) ?_
          case hya13 => (intro wh hSw; (try dsimp only at hSw); go_simp; try with_reducible rfl)
          simp only [Act.put, List.setIfInBounds_toArray, List.set_cons_zero, List.set_cons_succ]
          refine wpAnyH_take (i := 14) (oi := ⟨some 78, _, _, _, _, _⟩) (v := ?vta14) rfl (by kernel_rfl) (by kernel_rfl) (by kernel_rfl) (fun _ _ _ h => h) (Or.inl ⟨by kernel_rfl, ?hya14⟩) (by assumption) ?_
          case hya14 => (intro wh hSw; (try dsimp only at hSw); go_simp; try with_reducible rfl)
          simp only [Act.put, List.setIfInBounds_toArray, List.set_cons_zero, List.set_cons_succ]
          refine wpAnyH_take (i := 15) (oi := ⟨some 79, _, _, _, _, _⟩) (v := ?vta15) rfl (by kernel_rfl) (by kernel_rfl) (by kernel_rfl) (fun _ _ _ h => h) (Or.inl ⟨by kernel_rfl, ?hya15⟩) (by assumption) ?_
          case hya15 => (intro wh hSw; (try dsimp only at hSw); go_simp; try with_reducible rfl)
          simp only [Act.put, List.setIfInBounds_toArray, List.set_cons_zero, List.set_cons_succ]
          refine wpAnyH_take (i := 16) (oi := ⟨some 80, _, _, _, _, _⟩) (v := ?vta16) rfl (by kernel_rfl) (by kernel_rfl) (by kernel_rfl) (fun _ _ _ h => h) (Or.inl ⟨by kernel_rfl, ?hya16⟩) (by assumption) ?_
          case hya16 => (intro wh hSw; (try dsimp only at hSw); go_simp; try with_reducible rfl)
          simp only [Act.put, List.setIfInBounds_toArray, List.set_cons_zero, List.set_cons_succ]
          refine wpAnyH_take (i := 17) (oi := ⟨some 81, _, _, _, _, _⟩) (v := ?vta17) rfl (by kernel_rfl) (by kernel_rfl) (by kernel_rfl) (fun _ _ _ h => h) (Or.inl ⟨by kernel_rfl, ?hya17⟩) (by assumption) ?_
          case hya17 => (intro wh hSw; (try dsimp only at hSw); go_simp; try with_reducible rfl)
          simp only [Act.put, List.setIfInBounds_toArray, List.set_cons_zero, List.set_cons_succ]
          refine wpAnyH_take (i := 18) (oi := ⟨some 82, _, _, _, _, _⟩) (v := ?vta18) rfl (by kernel_rfl) (by kernel_rfl) (by kernel_rfl) (fun _ _ _ h => h) (Or.inl ⟨by kernel_rfl, ?hya18⟩) (by assumption) ?_
          case hya18 => (intro wh hSw; (try dsimp only at hSw); go_simp; try with_reducible rfl)
          simp only [Act.put, List.setIfInBounds_toArray, List.set_cons_zero, List.set_cons_succ]
          have gd : Below wr.heap.size wr (wr.drewN (nq + 1)) := bdrew (Below.refl _ _) (nq + 1)
          have hND := Lib.hid (HN.out.below gd)
          have hzd : lo ≤ (wr.drewN (nq + 1)).heap.size := hzr
          refine wpAnyH_ready (rs := [10]) (by kernel_rfl) (by simp) ?_
          refine AllReadyH.cons (o := _) rfl (fun K hK => ?_) AllReadyH.nil
          go_simp
          (go_at_call 27; (with_reducible refine (HK1.out _ gd).mono ?_); rintro e w4 ⟨g1, cap1, rfl, ho4, hb4⟩)
          have g4 := gtr gd hb4
          have hN4 := Lib.hid (hND.out.add hzd hb4 ho4)
          have hz4 : lo ≤ w4.heap.size := Nat.le_trans hzr g4.size
          refine hK.out _ _ (HS.out _ (g4.mono hzr)) (fun _ => ?_)
          clear hK K hND gd ho4 hb4
          try simp only [Act.put]
          refine wpAnyH_ready (rs := [19]) (by kernel_rfl) (by simp) ?_
          refine AllReadyH.cons (o := _) rfl (fun K hK => ?_) AllReadyH.nil
          go_simp
          (go_at_call 27; (with_reducible refine (HK2.out _ g4).mono ?_); rintro e w6 ⟨g2, cap2, rfl, ho6, hb6⟩)
          have g6 := gtr g4 hb6
          have hN6 := Lib.hid (hN4.out.add hz4 hb6 ho6)
          have hz6 : lo ≤ w6.heap.size := Nat.le_trans hzr g6.size
          refine hK.out _ _ (HS.out _ (g6.mono hzr)) (fun _ => ?_)
          clear hK K hN4 ho6 hb6
          try simp only [Act.put]
          refine wpAnyH_take (i := 20) (oi := ⟨some 84, _, _, _, _, _⟩) (v := ?vtb20) rfl (by kernel_rfl) (by kernel_rfl) (by kernel_rfl) (fun _ _ _ h => h) (Or.inl ⟨by kernel_rfl, ?hyb20⟩) (by assumption) ?_
          case hyb20 => (intro wh hSw; (try dsimp only at hSw); go_simp; try with_reducible rfl)
          simp only [Act.put, List.setIfInBounds_toArray, List.set_cons_zero, List.set_cons_succ]
          refine wpAnyH_take (i := 21) (oi := ⟨some 85, _, _, _, _, _⟩) (v := ?vtb21) rfl (by kernel_rfl) (by kernel_rfl) (by kernel_rfl) (fun _ _ _ h => h) (Or.inl ⟨by kernel_rfl, ?hyb21⟩) (by assumption) ?_
          case hyb21 => (intro wh hSw; (try dsimp only at hSw); go_simp; try with_reducible rfl)
          simp only [Act.put, List.setIfInBounds_toArray, List.set_cons_zero, List.set_cons_succ]
          refine wpAnyH_ready (rs := [22]) (by kernel_rfl) (by simp) ?_
          refine AllReadyH.cons (o := _) rfl (fun K hK => ?_) AllReadyH.nil
          go_simp
          have g7 := gtr g6 (bel1 w6 (.cells #[.int .i64 (f : Int), .slice (some ⟨g1, 0, none⟩) f cap1, .slice (some ⟨g2, 0, none⟩) f cap2] 60))
          refine hK.out _ _ (HS.out _ (g7.mono hzr)) (fun _ => ?_)
          clear hK K
          try simp only [Act.put]
          refine wpAnyH_ready (rs := [23]) (by kernel_rfl) (by simp) ?_
          refine AllReadyH.cons (o := _) rfl (fun K hK => ?_) AllReadyH.nil
          refine step_append_kat (by rfl) (.tmp 64) (.tmp 86) 57 60 (.agg #[.int .i64 0, .slice none 0 0, .slice none 0 0]) 3 56 (by rfl) Tryd.underlying57 infoEntry rfl (by omega) (by omega) lo (.slice Ag 0 cg) 0 [] (by rfl) (ownsK_below HG.out g7) _ #[.int .i64 (f : Int), .slice (some ⟨g1, 0, none⟩) f cap1, .slice (some ⟨g2, 0, none⟩) f cap2] (by rfl) (Blk.new_at _ _ _ (by simp)) rfl (fun u hu => by simp at hu; rcases hu with rfl | rfl | rfl <;> rfl) (by omega) (by simp; omega) ?_
          intro A7 c7 w7 ho7 hb7 hg7 hp7
          have g8 : Below lo wr w7 := (g7.mono hzr).trans hb7
          have hN8 := Lib.hid ((hN6.out.below (bel1 _ _)).keptE (ownsK_below HG.out g7) neNE neIE hg7)
          refine hK.out _ _ (HS.out _ g8) (fun _ => ?_)
          clear hK K hN6 hp7 hg7 hb7 g7 g6 g4 hz4 hz6 hzd
          try simp only [Act.put]
          refine wpAnyH_take (i := 24) (oi := ⟨some 10, _, _, _, _, _⟩) (v := ?vtc24) rfl (by kernel_rfl) (by kernel_rfl) (by kernel_rfl) (fun _ _ _ h => h) (Or.inl ⟨by kernel_rfl, ?hyc24⟩) (by assumption) ?_
          case hyc24 => (intro wh hSw; (try dsimp only at hSw); go_simp; try with_reducible rfl)
          simp only [Act.put, List.setIfInBounds_toArray]
          refine wpAnyH_done (by kernel_rfl) ?_ _
          refine NoPanic.normal ?_
          have HO7 := Lib.hid ho7
          have HR7 := Lib.hid (HR.out.belowB g8 hmr3)
          have HL7 := Lib.hid (HL.out.belowB g8 (fun g hg => by have e : some gl = some g := hg; injection e with e; omega))
          have HB7 := Lib.hid (HB.out.trans (g8.mono hB1w))
          have hz7 : lo ≤ w7.heap.size := Nat.le_trans hzr g8.size
          clear ho7 hHeld q0 q2 l0 b0 hA1 hA2 p0 p1 HR HL HB HG HN HS HK1 HK2
          go_wp2_with fail
          go_roundw
          case rel => exact ⟨1, c7, A7, _, _, nodesC (f + 1), by go_num, by omega, rfl, HO7.out, by rw [nodesC, List.map_append, List.map_append]; exact hN8.out, Or.inr ⟨rfl, _, _, _, _, rfl, rfl, rfl⟩, HR7.out, HL7.out, HB7.out, hz7⟩
          case measure => simp [intOf]
        · have HSE := Lib.hid fun fv W => sortE_any Ag cg fv W
          have hor : (f + 1 < n + 1 ∧ ((f : Int) + 1 == (f : Int)) = false ∧ wr.cell? ⟨gl, f + 1, none⟩ = some (.int .i64 ((f + 1 : Nat) : Int)) ∧ wr.cell? ⟨gB, f + 1, none⟩ = some (.int .i64 ((f + 1 : Nat) : Int))) ∨ ¬ f + 1 < n + 1 := by
            by_cases h : f + 1 < n + 1
            · exact Or.inl ⟨h, by rw [beq_eq_false_iff_ne]; omega, by rw [hcl (f + 1) _ (ints_at _ (f + 1) (by rw [rng_len]; omega)), gi_rng _ (f + 1) (by omega)], HP2.born (f + 1) (by omega)⟩
            · exact Or.inr h
          clear hcl HP2 hG hN hR hL hB
          rcases hor with ⟨hlt2, hne2, l1, b1⟩ | hge2
          · have hltI2 : (f : Int) + 1 < (n : Int) + 1 := by omega
            go_wp2_with fail
            go_quiet (fail)
            clear l1 b1 hne2
            have gd : Below wr.heap.size wr (wr.drewN nq) := bdrew (Below.refl _ _) nq
            have HGd := Lib.hid (ownsK_below HG.out gd)
            have HNd := Lib.hid (HN.out.below gd)
            have HRd := Lib.hid (HR.out.kept (grown_below gd none) (by simp))
            have HLd := Lib.hid (HL.out.below gd)
            have HBd := Lib.hid (HB.out.trans (gd.mono HB.out.size))
            have hzd : lo ≤ (wr.drewN nq).heap.size := hzr
            clear gd HG HN HR HL HB q0 q2 l0 b0 hzr
            generalize wr.drewN nq = V at *
            go_wp2_with (go_at_call 28; (with_reducible refine (HSE.out _ _).mono ?_); rintro e wv ⟨rfl, rfl⟩)
            obtain ⟨wu, rfl⟩ : ∃ wu, wu = wr := ⟨_, rfl⟩
            go_loopw [8, 92] (fun x i wr => ∃ (s c4 : Nat) (A4 : Option Addr) (cx : List Value), i = .int .i64 s ∧ s ≤ 1 ∧ x = .slice A4 (f + s) c4 ∧ ((s = 0 ∧ cx = cs) ∨ (s = 1 ∧ cx = cs ++ [.slice (some ⟨x1, 0, none⟩) f y1] ++ [.slice (some ⟨x2, 0, none⟩) f y2])) ∧ FrN wr lo (.slice A4 (f + s) c4) (f + s) cx (cs ++ [.slice (some ⟨x1, 0, none⟩) f y1] ++ [.slice (some ⟨x2, 0, none⟩) f y2]) ((nodesC (f + 1)).map ints) ∧ RankM wr mr (f + s) ∧ (s = 0 → wr.ownsRow lo 60 3 (.slice Ag 1 cg) 1 [.int .i64 (f : Int), .slice (some ⟨x1, 0, none⟩) f y1, .slice (some ⟨x2, 0, none⟩) f y2]) ∧ Own wr w1.heap.size 3 (.slice (some ⟨gl, 0, none⟩) (n + 1) c) (ints (rng (n + 1))) ∧ Below w1.heap.size w1 wr ∧ lo ≤ wr.heap.size) (fun _ i _ => 1 - (intOf i).toNat)
            case atStart => exact ⟨0, _, _, cs, rfl, by omega, rfl, Or.inl ⟨rfl, rfl⟩, HNd.out, HRd.out, fun _ => HGd.out, HLd.out, HBd.out, hzd⟩
            case round =>
              clear HGd HNd HRd HLd HBd hzd
              obtain ⟨s, c4, A4, cx, rfl, hs, rfl, hsx, hN, hR, hG, hL, hB, hzr⟩ := hrel
              have HB := Lib.hid hB
              by_cases hs1 : s < 1
              · obtain ⟨rfl, rfl⟩ : s = 0 ∧ cx = cs := by
                  rcases hsx with h | ⟨h, _⟩
                  · exact h
                  · omega
                have hG0 := hG rfl
                have hcg := (ownsK_cap hG0).1
                obtain ⟨gg, rfl, hgg1, hgg2, hgc, -⟩ := ownsK_at hG0 (by omega)
                have e0 : wr.cell? ⟨gg, 0, none⟩ = some (.int .i64 (f : Int)) := hgc 0 (by omega)
                have e1 : wr.cell? ⟨gg, 1, none⟩ = some (.slice (some ⟨x1, 0, none⟩) f y1) := hgc 1 (by omega)
                have e2 : wr.cell? ⟨gg, 2, none⟩ = some (.slice (some ⟨x2, 0, none⟩) f y2) := hgc 2 (by omega)
                obtain ⟨gl', hA1, -, -, -, hcl, hlf⟩ := hL.at (by rw [ints_len, rng_len]; omega)
                injection hA1 with hA1
                injection hA1 with hA1
                subst hA1
                have l0 : wr.cell? ⟨gl, f, none⟩ = some (.int .i64 (f : Int)) := by rw [hcl f _ (ints_at _ f (by rw [rng_len]; omega)), gi_rng _ f (by omega)]
                have lf0 := hlf f
                have hla : ∀ o, (wr.alloc o).cell? ⟨gl, f, none⟩ = some (.int .i64 (f : Int)) ∧ (wr.alloc o).frozen? ⟨gl, f, none⟩ = false := fun o => by
                  obtain ⟨gl', hA1, -, -, -, hcl, hlf⟩ := (hL.below (bel1 wr o)).at (by rw [ints_len, rng_len]; omega)
                  injection hA1 with hA1
                  injection hA1 with hA1
                  subst hA1
                  exact ⟨by rw [hcl f _ (ints_at _ f (by rw [rng_len]; omega)), gi_rng _ f (by omega)], hlf f⟩
                have la0 := fun o => (hla o).1
                have laf := fun o => (hla o).2
                have hnz1 : ¬ wr.heap.size = gl := by omega
                have hnz2 : ¬ gl = wr.heap.size := by omega
                obtain ⟨D, hD, hat⟩ := hR
                have hmg : gl ≠ mr := fun e => neMap hL hD (by rw [← e]; rfl)
                have hbE := bel1 wr (.cells #[.int .i64 (f : Int), .slice (some ⟨x1, 0, none⟩) f y1, .slice (some ⟨x2, 0, none⟩) f y2] 60)
                have hS := grown_set (wr.alloc (.cells #[.int .i64 (f : Int), .slice (some ⟨x1, 0, none⟩) f y1, .slice (some ⟨x2, 0, none⟩) f y2] 60)) gl f (.int .i64 (f : Int))
                have hDe : (wr.alloc (.cells #[.int .i64 (f : Int), .slice (some ⟨x1, 0, none⟩) f y1, .slice (some ⟨x2, 0, none⟩) f y2] 60)).ownsMap Tryd.prog 3 (plainElem (H := Unit) Tryd.prog 3) mr f D := hD.kept (grown_below hbE none) (by simp)
                have hDa := hDe.kept hS (fun e => by injection e with e; exact hmg e.symm)
                have hkey := key_of f (by omega)
                have hval : plainElem (H := Unit) Tryd.prog 3 (.int .i64 (f : Int)) = some (.lit (.int .i64 (f : Int)), []) := plainElem_int Tryd.underlying3 (by simp [Lit.wf, IntKind.min, IntKind.max, IntKind.signed, IntKind.bits]; omega)
                have hnl : f < maxLen := by unfold maxLen; omega
                have HN2 := Lib.hid ((hN.below hbE).kept hS (fun g hg => by injection hg with hg; omega))
                have HL2 := Lib.hid (own_same (hL.below hbE) (by omega : f < n + 1))
                have HB2 := Lib.hid ((hB.alloc (by have := hB.size; omega) (.cells #[.int .i64 (f : Int), .slice (some ⟨x1, 0, none⟩) f y1, .slice (some ⟨x2, 0, none⟩) f y2] 60)).setCell (p := ⟨gl, f, none⟩) hgl (.int .i64 (f : Int)))
                have hzW : ((wr.alloc (.cells #[.int .i64 (f : Int), .slice (some ⟨x1, 0, none⟩) f y1, .slice (some ⟨x2, 0, none⟩) f y2] 60)).setCell ⟨gl, f, none⟩ (.int .i64 (f : Int))).heap.size = wr.heap.size + 1 := by simp
                have HAT := Lib.hid hat
                clear hN hL hB hG hG0 hgc hcl hlf hla hD hDe hS hbE hat HB hsx hs hs1
                simp only [Nat.add_zero]
                go_wp2_with (first
                  | (at_mapUpdate; refine wpList_mapUpdate_own _ rfl _ _ _ 43 rfl 3 3 keyedI Tryd.underlying43 _ mr _ D rfl hDa hnl _ _ _ rfl rfl hkey _ [] hval ?_; intro w8 ho8 hg8; have i8 := ((Blk.new wr 60 #[.int .i64 (f : Int), .slice (some ⟨x1, 0, none⟩) f y1, .slice (some ⟨x2, 0, none⟩) f y2]).far (p := ⟨gl, f, none⟩) hnz1 (.int .i64 (f : Int))).grown hg8 (fun e => by injection e with e; omega); have c81 : w8.cell? ⟨wr.heap.size, 1, none⟩ = some (.slice (some ⟨x1, 0, none⟩) f y1) := i8.cell 1; have c82 : w8.cell? ⟨wr.heap.size, 2, none⟩ = some (.slice (some ⟨x2, 0, none⟩) f y2) := i8.cell 2; have HN8 := Lib.hid (HN2.out.kept hg8 (fun g hg => by injection hg with hg; omega)); have HL8 := Lib.hid (HL2.out.grown hg8 (.inr (neMap HL2.out hDa))); have HR8 := Lib.hid (RankM.put hDa.isMap HAT.out ho8); have HB8 := Lib.hid (HB2.out.grown hg8 (by omega) (fun g hg => by injection hg with hg; omega)); have hz8 := hg8.size; clear ho8 hg8 i8)
                  | (at_builtin; refine append_k_at rfl _ _ 22 40 (.agg #[.slice none 0 0, .slice none 0 0]) 2 48 rfl Tryd.underlying22 infoNode rfl (by omega) (by omega) lo (.slice A4 f c4) f cx rfl (ownsK_below HN8.out.own (bel1 _ _)) _ #[.slice (some ⟨x1, 0, none⟩) f y1, .slice (some ⟨x2, 0, none⟩) f y2] rfl (Blk.new_at _ _ _ (by simp)) rfl (fun u hu => by simp at hu; rcases hu with rfl | rfl <;> rfl) (by omega) (by simp; omega) ?_; intro A9 c9 w9 ho9 hb9 hg9 hp9))
                have hba := bel1 w8 (.cells #[.slice (some ⟨x1, 0, none⟩) f y1, .slice (some ⟨x2, 0, none⟩) f y2] 40)
                have h89 : Below lo w8 w9 := (hba.mono (by omega)).trans hb9
                have hN9 := FrN.grow HN8.out hba ho9 hg9 hp9
                have HN9 : Hid (FrN w9 lo (.slice A9 (f + 1) c9) (f + 1) (cx ++ [.slice (some ⟨x1, 0, none⟩) f y1] ++ [.slice (some ⟨x2, 0, none⟩) f y2]) (cx ++ [.slice (some ⟨x1, 0, none⟩) f y1] ++ [.slice (some ⟨x2, 0, none⟩) f y2]) ((nodesC (f + 1)).map ints)) := Lib.hid (by
                  have e : cx ++ #[Value.slice (some ⟨x1, 0, none⟩) f y1, Value.slice (some ⟨x2, 0, none⟩) f y2].toList = cx ++ [.slice (some ⟨x1, 0, none⟩) f y1] ++ [.slice (some ⟨x2, 0, none⟩) f y2] := by simp
                  rw [e] at hN9
                  exact hN9)
                have HR9 := Lib.hid (HR8.out.belowB h89 hmr3)
                have HL9 := Lib.hid (HL8.out.belowB h89 (fun g hg => by have e : some gl = some g := hg; injection e with e; omega))
                have HB9 := Lib.hid (HB8.out.trans (h89.mono hB1w))
                have hz9 : lo ≤ w9.heap.size := by have := h89.size; omega
                clear hba h89 hN9 ho9 hb9 hg9 hp9 HN8 HL8 HB8 HR8 HN2 HL2 HB2 HAT hDa
                go_roundw
                case rel => exact ⟨1, c9, A9, _, by go_num, by omega, rfl, Or.inr ⟨rfl, rfl⟩, HN9.out, HR9.out, fun h => absurd h (by omega), HL9.out, HB9.out, hz9⟩
                case measure => simp [intOf]
              · obtain ⟨rfl, rfl⟩ : s = 1 ∧ cx = cs ++ [.slice (some ⟨x1, 0, none⟩) f y1] ++ [.slice (some ⟨x2, 0, none⟩) f y2] := by
                  rcases hsx with ⟨h, _⟩ | h
                  · omega
                  · exact h
                have HN := Lib.hid hN
                have HR := Lib.hid hR
                have HL := Lib.hid hL
                clear hN hR hL hB hG hsx hs hs1
                go_wp2_with fail
                go_roundw
                case rel => exact ⟨f + 1, c4, A4, _, by go_num, by omega, rfl, HN.out, HR.out, HL.out, HB.out, hzr⟩
                case measure => simp [intOf]; omega
          · have hltI2 : ¬ (f : Int) + 1 < (n : Int) + 1 := by omega
            have hgd2 : decide ((f : Int) + 1 < (n : Int) + 1) = false := decide_eq_false hltI2
            have hgd3 : decide (f + 1 < n + 1) = false := decide_eq_false hge2
            have hgd4 : decide (f < n) = false := decide_eq_false (by omega)
            have hgd5 : decide ((f : Int) < (n : Int)) = false := decide_eq_false (by omega)
            clear hltI2 hge2
            go_wp2_with fail
            go_quiet (fail)
            clear hgd2 hgd3 hgd4 hgd5
            have gd : Below wr.heap.size wr (wr.drewN nq) := bdrew (Below.refl _ _) nq
            have HGd := Lib.hid (ownsK_below HG.out gd)
            have HNd := Lib.hid (HN.out.below gd)
            have HRd := Lib.hid (HR.out.kept (grown_below gd none) (by simp))
            have HLd := Lib.hid (HL.out.below gd)
            have HBd := Lib.hid (HB.out.trans (gd.mono HB.out.size))
            have hzd : lo ≤ (wr.drewN nq).heap.size := hzr
            clear gd HG HN HR HL HB q0 q2 l0 b0 hzr
            generalize wr.drewN nq = V at *
            go_wp2_with (go_at_call 28; (with_reducible refine (HSE.out _ _).mono ?_); rintro e wv ⟨rfl, rfl⟩)
            obtain ⟨wu, rfl⟩ : ∃ wu, wu = wr := ⟨_, rfl⟩
            go_loopw [8, 92] (fun x i wr => ∃ (s c4 : Nat) (A4 : Option Addr) (cx : List Value), i = .int .i64 s ∧ s ≤ 1 ∧ x = .slice A4 (f + s) c4 ∧ ((s = 0 ∧ cx = cs) ∨ (s = 1 ∧ cx = cs ++ [.slice (some ⟨x1, 0, none⟩) f y1] ++ [.slice (some ⟨x2, 0, none⟩) f y2])) ∧ FrN wr lo (.slice A4 (f + s) c4) (f + s) cx (cs ++ [.slice (some ⟨x1, 0, none⟩) f y1] ++ [.slice (some ⟨x2, 0, none⟩) f y2]) ((nodesC (f + 1)).map ints) ∧ RankM wr mr (f + s) ∧ (s = 0 → wr.ownsRow lo 60 3 (.slice Ag 1 cg) 1 [.int .i64 (f : Int), .slice (some ⟨x1, 0, none⟩) f y1, .slice (some ⟨x2, 0, none⟩) f y2]) ∧ Own wr w1.heap.size 3 (.slice (some ⟨gl, 0, none⟩) (n + 1) c) (ints (rng (n + 1))) ∧ Below w1.heap.size w1 wr ∧ lo ≤ wr.heap.size) (fun _ i _ => 1 - (intOf i).toNat)
            case atStart => exact ⟨0, _, _, cs, rfl, by omega, rfl, Or.inl ⟨rfl, rfl⟩, HNd.out, HRd.out, fun _ => HGd.out, HLd.out, HBd.out, hzd⟩
            case round =>
              clear HGd HNd HRd HLd HBd hzd
              obtain ⟨s, c4, A4, cx, rfl, hs, rfl, hsx, hN, hR, hG, hL, hB, hzr⟩ := hrel
              have HB := Lib.hid hB
              by_cases hs1 : s < 1
              · obtain ⟨rfl, rfl⟩ : s = 0 ∧ cx = cs := by
                  rcases hsx with h | ⟨h, _⟩
                  · exact h
                  · omega
                have hG0 := hG rfl
                have hcg := (ownsK_cap hG0).1
                obtain ⟨gg, rfl, hgg1, hgg2, hgc, -⟩ := ownsK_at hG0 (by omega)
                have e0 : wr.cell? ⟨gg, 0, none⟩ = some (.int .i64 (f : Int)) := hgc 0 (by omega)
                have e1 : wr.cell? ⟨gg, 1, none⟩ = some (.slice (some ⟨x1, 0, none⟩) f y1) := hgc 1 (by omega)
                have e2 : wr.cell? ⟨gg, 2, none⟩ = some (.slice (some ⟨x2, 0, none⟩) f y2) := hgc 2 (by omega)
                obtain ⟨gl', hA1, -, -, -, hcl, hlf⟩ := hL.at (by rw [ints_len, rng_len]; omega)
                injection hA1 with hA1
                injection hA1 with hA1
                subst hA1
                have l0 : wr.cell? ⟨gl, f, none⟩ = some (.int .i64 (f : Int)) := by rw [hcl f _ (ints_at _ f (by rw [rng_len]; omega)), gi_rng _ f (by omega)]
                have lf0 := hlf f
                have hla : ∀ o, (wr.alloc o).cell? ⟨gl, f, none⟩ = some (.int .i64 (f : Int)) ∧ (wr.alloc o).frozen? ⟨gl, f, none⟩ = false := fun o => by
                  obtain ⟨gl', hA1, -, -, -, hcl, hlf⟩ := (hL.below (bel1 wr o)).at (by rw [ints_len, rng_len]; omega)
                  injection hA1 with hA1
                  injection hA1 with hA1
                  subst hA1
                  exact ⟨by rw [hcl f _ (ints_at _ f (by rw [rng_len]; omega)), gi_rng _ f (by omega)], hlf f⟩
                have la0 := fun o => (hla o).1
                have laf := fun o => (hla o).2
                have hnz1 : ¬ wr.heap.size = gl := by omega
                have hnz2 : ¬ gl = wr.heap.size := by omega
                obtain ⟨D, hD, hat⟩ := hR
                have hmg : gl ≠ mr := fun e => neMap hL hD (by rw [← e]; rfl)
                have hbE := bel1 wr (.cells #[.int .i64 (f : Int), .slice (some ⟨x1, 0, none⟩) f y1, .slice (some ⟨x2, 0, none⟩) f y2] 60)
                have hS := grown_set (wr.alloc (.cells #[.int .i64 (f : Int), .slice (some ⟨x1, 0, none⟩) f y1, .slice (some ⟨x2, 0, none⟩) f y2] 60)) gl f (.int .i64 (f : Int))
                have hDe : (wr.alloc (.cells #[.int .i64 (f : Int), .slice (some ⟨x1, 0, none⟩) f y1, .slice (some ⟨x2, 0, none⟩) f y2] 60)).ownsMap Tryd.prog 3 (plainElem (H := Unit) Tryd.prog 3) mr f D := hD.kept (grown_below hbE none) (by simp)
                have hDa := hDe.kept hS (fun e => by injection e with e; exact hmg e.symm)
                have hkey := key_of f (by omega)
                have hval : plainElem (H := Unit) Tryd.prog 3 (.int .i64 (f : Int)) = some (.lit (.int .i64 (f : Int)), []) := plainElem_int Tryd.underlying3 (by simp [Lit.wf, IntKind.min, IntKind.max, IntKind.signed, IntKind.bits]; omega)
                have hnl : f < maxLen := by unfold maxLen; omega
                have HN2 := Lib.hid ((hN.below hbE).kept hS (fun g hg => by injection hg with hg; omega))
                have HL2 := Lib.hid (own_same (hL.below hbE) (by omega : f < n + 1))
                have HB2 := Lib.hid ((hB.alloc (by have := hB.size; omega) (.cells #[.int .i64 (f : Int), .slice (some ⟨x1, 0, none⟩) f y1, .slice (some ⟨x2, 0, none⟩) f y2] 60)).setCell (p := ⟨gl, f, none⟩) hgl (.int .i64 (f : Int)))
                have hzW : ((wr.alloc (.cells #[.int .i64 (f : Int), .slice (some ⟨x1, 0, none⟩) f y1, .slice (some ⟨x2, 0, none⟩) f y2] 60)).setCell ⟨gl, f, none⟩ (.int .i64 (f : Int))).heap.size = wr.heap.size + 1 := by simp
                have HAT := Lib.hid hat
                clear hN hL hB hG hG0 hgc hcl hlf hla hD hDe hS hbE hat HB hsx hs hs1
                simp only [Nat.add_zero]
                go_wp2_with (first
                  | (at_mapUpdate; refine wpList_mapUpdate_own _ rfl _ _ _ 43 rfl 3 3 keyedI Tryd.underlying43 _ mr _ D rfl hDa hnl _ _ _ rfl rfl hkey _ [] hval ?_; intro w8 ho8 hg8; have i8 := ((Blk.new wr 60 #[.int .i64 (f : Int), .slice (some ⟨x1, 0, none⟩) f y1, .slice (some ⟨x2, 0, none⟩) f y2]).far (p := ⟨gl, f, none⟩) hnz1 (.int .i64 (f : Int))).grown hg8 (fun e => by injection e with e; omega); have c81 : w8.cell? ⟨wr.heap.size, 1, none⟩ = some (.slice (some ⟨x1, 0, none⟩) f y1) := i8.cell 1; have c82 : w8.cell? ⟨wr.heap.size, 2, none⟩ = some (.slice (some ⟨x2, 0, none⟩) f y2) := i8.cell 2; have HN8 := Lib.hid (HN2.out.kept hg8 (fun g hg => by injection hg with hg; omega)); have HL8 := Lib.hid (HL2.out.grown hg8 (.inr (neMap HL2.out hDa))); have HR8 := Lib.hid (RankM.put hDa.isMap HAT.out ho8); have HB8 := Lib.hid (HB2.out.grown hg8 (by omega) (fun g hg => by injection hg with hg; omega)); have hz8 := hg8.size; clear ho8 hg8 i8)
                  | (at_builtin; refine append_k_at rfl _ _ 22 40 (.agg #[.slice none 0 0, .slice none 0 0]) 2 48 rfl Tryd.underlying22 infoNode rfl (by omega) (by omega) lo (.slice A4 f c4) f cx rfl (ownsK_below HN8.out.own (bel1 _ _)) _ #[.slice (some ⟨x1, 0, none⟩) f y1, .slice (some ⟨x2, 0, none⟩) f y2] rfl (Blk.new_at _ _ _ (by simp)) rfl (fun u hu => by simp at hu; rcases hu with rfl | rfl <;> rfl) (by omega) (by simp; omega) ?_; intro A9 c9 w9 ho9 hb9 hg9 hp9))
                have hba := bel1 w8 (.cells #[.slice (some ⟨x1, 0, none⟩) f y1, .slice (some ⟨x2, 0, none⟩) f y2] 40)
                have h89 : Below lo w8 w9 := (hba.mono (by omega)).trans hb9
                have hN9 := FrN.grow HN8.out hba ho9 hg9 hp9
                have HN9 : Hid (FrN w9 lo (.slice A9 (f + 1) c9) (f + 1) (cx ++ [.slice (some ⟨x1, 0, none⟩) f y1] ++ [.slice (some ⟨x2, 0, none⟩) f y2]) (cx ++ [.slice (some ⟨x1, 0, none⟩) f y1] ++ [.slice (some ⟨x2, 0, none⟩) f y2]) ((nodesC (f + 1)).map ints)) := Lib.hid (by
                  have e : cx ++ #[Value.slice (some ⟨x1, 0, none⟩) f y1, Value.slice (some ⟨x2, 0, none⟩) f y2].toList = cx ++ [.slice (some ⟨x1, 0, none⟩) f y1] ++ [.slice (some ⟨x2, 0, none⟩) f y2] := by simp
                  rw [e] at hN9
                  exact hN9)
                have HR9 := Lib.hid (HR8.out.belowB h89 hmr3)
                have HL9 := Lib.hid (HL8.out.belowB h89 (fun g hg => by have e : some gl = some g := hg; injection e with e; omega))
                have HB9 := Lib.hid (HB8.out.trans (h89.mono hB1w))
                have hz9 : lo ≤ w9.heap.size := by have := h89.size; omega
                clear hba h89 hN9 ho9 hb9 hg9 hp9 HN8 HL8 HB8 HR8 HN2 HL2 HB2 HAT hDa
                go_roundw
                case rel => exact ⟨1, c9, A9, _, by go_num, by omega, rfl, Or.inr ⟨rfl, rfl⟩, HN9.out, HR9.out, fun h => absurd h (by omega), HL9.out, HB9.out, hz9⟩
                case measure => simp [intOf]
              · obtain ⟨rfl, rfl⟩ : s = 1 ∧ cx = cs ++ [.slice (some ⟨x1, 0, none⟩) f y1] ++ [.slice (some ⟨x2, 0, none⟩) f y2] := by
                  rcases hsx with ⟨h, _⟩ | h
                  · omega
                  · exact h
                have HN := Lib.hid hN
                have HR := Lib.hid hR
                have HL := Lib.hid hL
                clear hN hR hL hB hG hsx hs hs1
                go_wp2_with fail
                go_roundw
                case rel => exact ⟨f + 1, c4, A4, _, by go_num, by omega, rfl, HN.out, HR.out, HL.out, HB.out, hzr⟩
                case measure => simp [intOf]; omega
    · have hfn : f = n + 1 := by omega
      subst hfn
      have hltI : ¬ ((n + 1 : Nat) : Int) < (n : Int) + 1 := by omega
      have HNE := Lib.hid (hN.le (show w.heap.size ≤ lo by omega))
      have HBE := Lib.hid (HB1.out.trans (hB.mono (by omega)))
      clear hN hR hL hB
      go_wp2_with fail
      go_ret2
      exact ⟨_, AN, c2, rfl, ⟨cs, HNE.out⟩, HBE.out⟩
end Go.Proofs.YtdjchjmmpjofcaaDoor
