/- The program's line of a wall. Conditions: none. -/
import Derived.Test.YtidfbbegjpfjpaaWal2
import Derived.Test.YtidfbbegjpfjpaaSl
import Derived.Deep.RegionHeld3
import Derived.Deep.RegionLaw
namespace Go.Proofs.Ytidfbbegjpfjpaa
open Go.RowKit
set_option linter.unusedVariables false

theorem infoSpot : (Try.prog.info? 83).map (fun i => (i.zero, i.size, i.bytes)) = some (some (.agg #[.int .i64 0, .int .i64 0]), 2, 16) := by kernel_rfl
theorem ownsRow_form {w : World} {base : Nat} {E : TypeId} {k n : Nat} {v : Value} {cs : List Value} (h : w.ownsRow base E k v n cs) : ∃ A c, v = .slice A n c := by
  rcases h.2 with ⟨hv, h0⟩ | ⟨g, cap, cur, hv, _⟩
  · exact ⟨none, 0, by rw [hv, h0]⟩
  · exact ⟨_, _, hv⟩
theorem ownsRow_below' {w w' : World} {base : Nat} {E : TypeId} {k n : Nat} {v : Value} {cs : List Value} (h : w.ownsRow base E k v n cs) (hb : Below w.heap.size w w') : w'.ownsRow base E k v n cs :=
  ownsRow_below h hb fun g hg => (h.lt g hg).2
/-- 'append(s, x)', one element of some cells, in a region that draws. -/
theorem step_append_k {P : Program} {w : World} {ops : Array Oper} {o : Oper} {a : Act} {K : Act → World → Prop} {Q : Exit → Act → World → Prop} {F : Prop} (hgd : o.guard = none) (s x : Operand) (T E : TypeId) (z : Value) (size bytes : Nat)
    (ho : o.op = .call { callee := .builtin .append, args := #[s, x], argTypes := #[T, T] }) (ht : P.underlying T = some (.slice E))
    (hinfo : (P.info? E).map (fun i => (i.zero, i.size, i.bytes)) = some (some z, size, bytes)) (hz : z.cells.size = size) (hsz : 0 < size) (hby : bytes ≤ 100)
    (base : Nat) (v : Value) (n : Nat) (cs : List Value) (hs : a.eval s = v) (hown : w.ownsRow base E size v n cs) (g : Nat) (us : Array Value) (hx : a.eval x = .slice (some ⟨g, 0, none⟩) 1 1) (hb : Blk w g E us) (hus : us.size = size) (h1 : ∀ u ∈ us.toList, u.oneCell' = true)
    (hlen : n ≤ 1000000000) (hbase : base ≤ w.heap.size)
    (h : ∀ A c w', w'.ownsRow base E size (.slice A (n + 1) c) (n + 1) (cs ++ us.toList) → Below base w w' → w.grownBy w' v.ownBlock → K (a.put o.dst (.slice A (n + 1) c)) w') :
    if Region.wanted o (yielded ops a.tmps) = true then Oper.wp P o a w K Q else F := by
  rw [if_pos (show Region.wanted o (yielded ops a.tmps) = true by simp [Region.wanted, hgd])]
  obtain ⟨i0, hi, hz0, hz1, hz2⟩ := info_parts hinfo
  refine wp_append_own w s x T ho base E i0 z size bytes ht hi hz0 hz1 hz2 hz hsz v n cs hs hown ⟨g, 0, none⟩ 1 1 us.toList hx (by simpa using hus) ?_ h1 (by unfold maxLen; omega) ?_ hbase ?_
  · intro j u hj
    rw [add_none, Nat.zero_add, hb.cell]
    simpa using hj
  · have : (n + 1) * bytes ≤ (n + 1) * 100 := Nat.mul_le_mul_left _ hby
    omega
  · intro v' w' h2 h3 h4
    obtain ⟨A, c, rfl⟩ := ownsRow_form h2
    exact h A c w' h2 ((Below.refl _ _).grown h3 hbase fun k hk => (hown.lt k hk).1) h3

theorem ownsRow_far {w : World} {base k n : Nat} {E : TypeId} {v : Value} {cs : List Value} {p : Addr} {u : Value} (h : w.ownsRow base E k v n cs) (hne : v.ownBlock ≠ some p.block) : (w.setCell p u).ownsRow base E k v n cs := by
  obtain ⟨h1, h2⟩ := h
  refine ⟨h1, ?_⟩
  rcases h2 with h2 | ⟨g, cap, cur, hv, hgb, hh, r⟩
  · exact Or.inl h2
  · exact Or.inr ⟨g, cap, cur, hv, hgb, by rw [Below.heap_setCell _ _ _ _ (fun e => hne (by rw [hv, ← e]; rfl))]; exact hh, r⟩
/-- The cells of the first k spots. -/
def spC (xs : List Pt) : Nat → List Value
  | 0 => []
  | k + 1 => spC xs k ++ [.int .i64 (a20 (gp xs k)), .int .i64 (v20 (gp xs k))]
theorem spC_len (xs : List Pt) (k : Nat) : (spC xs k).length = k * 2 := by
  induction k with
  | zero => rfl
  | succ k ih => show (spC xs k ++ _).length = _; rw [List.length_append, ih]; simp; omega
theorem spC_at (xs : List Pt) (k i : Nat) (h : i < k) : (spC xs k)[i * 2]? = some (.int .i64 (a20 (gp xs i))) ∧ (spC xs k)[i * 2 + 1]? = some (.int .i64 (v20 (gp xs i))) := by
  induction k with
  | zero => omega
  | succ k ih =>
    show (spC xs k ++ _)[_]? = _ ∧ (spC xs k ++ _)[_]? = _
    have hl := spC_len xs k
    by_cases hik : i = k
    · subst hik
      rw [List.getElem?_append_right (by omega), List.getElem?_append_right (by omega), hl]
      simp
    · rw [List.getElem?_append_left (by omega), List.getElem?_append_left (by omega)]
      exact ih (by omega)
/-- Slice A reads as the spots of xs. -/
def RdS (w : World) (B : Nat) (A : Option Addr) (c : Nat) (xs : List Pt) : Prop :=
  xs.length ≤ c ∧ c ≤ maxLen ∧ ∀ j, j < xs.length → ∃ b o, A = some ⟨b, o, none⟩ ∧ b < B ∧ ∀ i, i < xs.length → w.cell? ⟨b, o + i * 2, none⟩ = some (.int .i64 (a20 (gp xs i))) ∧ w.cell? ⟨b, o + i * 2 + 1, none⟩ = some (.int .i64 (v20 (gp xs i)))
theorem RdS.below {w w' : World} {B B' c : Nat} {A : Option Addr} {xs : List Pt} (h : RdS w B A c xs) (hb : Below B' w w') (hB : B ≤ B') : RdS w' B A c xs :=
  ⟨h.1, h.2.1, fun j hj => by
    obtain ⟨b, o, hA, hbB, hc⟩ := h.2.2 j hj
    exact ⟨b, o, hA, hbB, fun i hi => ⟨(hb.cell (p := ⟨b, _, none⟩) (by show b < B'; omega)).trans (hc i hi).1, (hb.cell (p := ⟨b, _, none⟩) (by show b < B'; omega)).trans (hc i hi).2⟩⟩⟩
theorem RdS.more {w : World} {B B' c : Nat} {A : Option Addr} {xs : List Pt} (h : RdS w B A c xs) (hB : B ≤ B') : RdS w B' A c xs :=
  ⟨h.1, h.2.1, fun j hj => by
    obtain ⟨b, o, hA, hbB, hc⟩ := h.2.2 j hj
    exact ⟨b, o, hA, by omega, hc⟩⟩
theorem RdS.of_own {w : World} {base : Nat} {A : Option Addr} {c : Nat} {xs : List Pt} (h : w.ownsRow base 83 2 (.slice A xs.length c) xs.length (spC xs xs.length)) : RdS w w.heap.size A c xs := by
  rcases h.2 with ⟨hv, h0⟩ | ⟨g, cap, cur, hv, hb, hg, hnc, hcm, hcs, ht⟩
  · injection hv with hA hn hc
    subst hA; subst hc
    exact ⟨by omega, by unfold maxLen; omega, fun j hj => by omega⟩
  · injection hv with hA hn hc
    subst hA; subst hc
    refine ⟨hnc, hcm, fun j hj => ⟨g, 0, rfl, (h.lt g rfl).2, fun i hi => ?_⟩⟩
    have hcell := h.cells (g := g) rfl
    obtain ⟨h1, h2⟩ := spC_at xs xs.length i hi
    have k1 := hcell _ _ h1
    have k2 := hcell _ _ h2
    rw [add_none] at k1 k2
    exact ⟨k1, by rw [← k2, Nat.add_assoc]⟩

def LineR (w : World) (xs : List Pt) (e : Ending) (w' : World) : Prop :=
  ∃ A c, e = .returned (.agg #[.slice A xs.length c, .int .i64 0]) ∧ RdS w' w'.heap.size A c xs ∧ Below w.heap.size w w'
set_option maxRecDepth 100000 in
set_option maxHeartbeats 1600000 in
theorem lineOf_any (A : Option Addr) (c : Nat) (xs : List Pt) (w : World) (B : Nat) (hB : B ≤ w.heap.size) (h : RdP w B A c xs) (hn : xs.length ≤ 40) (hg : ∀ i, i < xs.length → gPt (gp xs i)) :
    Calls Try.prog 27 #[.slice A xs.length c] w (LineR w xs) := by
  have h1 := h.len
  have h2 := h.max
  have HG := Lib.hid hg; clear hg
  go_enter Try.func27, Try.ntmps27
  go_wp2
  have hB2 := box2 w 60 60 #[.slice none 0 0, .int .i64 0] #[.slice none 0 0, .int .i64 0]
  generalize (w.alloc (.cells #[.slice none 0 0, .int .i64 0] 60)).alloc (.cells #[.slice none 0 0, .int .i64 0] 60) = W at *
  obtain ⟨b1, b2, hbW, hzW⟩ := hB2
  go_loopw [9] (fun i wr => ∃ (k : Nat) (A' : Option Addr) (c' : Nat), i = .int .i64 k ∧ k ≤ xs.length ∧ Blk wr w.heap.size 60 #[.slice none 0 0, .int .i64 0] ∧ Blk wr (w.heap.size + 1) 60 #[.slice A' k c', .int .i64 0] ∧ wr.ownsRow (w.heap.size + 2) 83 2 (.slice A' k c') k (spC xs k) ∧ Below w.heap.size w wr ∧ w.heap.size + 2 ≤ wr.heap.size) (fun i _ => xs.length - (intOf i).toNat)
  case atStart => exact ⟨0, none, 0, rfl, by omega, b1, b2, World.ownsRow_nil _ _ _ _, hbW, by omega⟩
  case round =>
    clear b1 b2 hbW hzW
    obtain ⟨k, A', c', rfl, hk, hb1, hb2, ho, hb, hz⟩ := hrel
    have hzr := hb.size
    by_cases hlt : k < xs.length
    · obtain ⟨b, o, rfl, hbB, hc⟩ := (h.below hb hB).at (j := k) hlt
      obtain ⟨k0, k1, k2, k3⟩ := hc k hlt
      have hgX := HG.out k hlt
      obtain ⟨X, hX⟩ : ∃ X, X = gp xs k := ⟨_, rfl⟩
      rw [← hX] at k0 k1 k2 k3 hgX
      have hX1 := fun W => inParts_pt X W hgX
      have hX2 := fun W => inParts_val X W hgX
      have HSP : Hid (spC xs (k + 1) = spC xs k ++ [.int .i64 (a20 X), .int .i64 (v20 X)]) := by show _ = _; rw [hX]; rfl
      generalize a20 X = a at *
      generalize v20 X = v at *
      obtain ⟨t, p, u, q⟩ := X
      simp only at k0 k1 k2 k3 hX1 hX2
      have HX1 := Lib.hid hX1; have HX2 := Lib.hid hX2
      clear hX1 hX2 hX hgX hc
      have hP := Blk.new wr 53 #[.int .i64 t, .int .i64 p, .int .i64 u, .int .i64 q]
      have hbP := bel1 wr (.cells #[.int .i64 t, .int .i64 p, .int .i64 u, .int .i64 q] 53)
      have hb1' := hb1.alloc (.cells #[.int .i64 t, .int .i64 p, .int .i64 u, .int .i64 q] 53)
      have hb2' := hb2.alloc (.cells #[.int .i64 t, .int .i64 p, .int .i64 u, .int .i64 q] 53)
      have ho' := ownsRow_below' ho hbP
      go_wp2
      generalize wr.alloc (.cells #[.int .i64 t, .int .i64 p, .int .i64 u, .int .i64 q] 53) = V at *
      have hzV := hbP.size
      have hPlt := hP.lt
      have q0 : V.cell? ⟨w.heap.size + 1, 0, none⟩ = some (.slice A' k c') := hb2'.cell 0
      have p0 : V.cell? ⟨wr.heap.size, 0, none⟩ = some (.int .i64 t) := hP.cell 0
      have p1 : V.cell? ⟨wr.heap.size, 1, none⟩ = some (.int .i64 p) := hP.cell 1
      have p2 : V.cell? ⟨wr.heap.size, 2, none⟩ = some (.int .i64 u) := hP.cell 2
      have p3 : V.cell? ⟨wr.heap.size, 3, none⟩ = some (.int .i64 q) := hP.cell 3
      obtain ⟨PB, hPB⟩ : ∃ PB, PB = wr.heap.size := ⟨_, rfl⟩
      rw [← hPB] at p0 p1 p2 p3 hP ⊢
      have hPB2 : w.heap.size + 2 ≤ PB := by omega
      have hPlt' : PB < V.heap.size := by omega
      have HS : Hid (∀ w', Below V.heap.size V w' → Blk w' w.heap.size 60 #[.slice none 0 0, .int .i64 0] ∧ Blk w' (w.heap.size + 1) 60 #[.slice A' k c', .int .i64 0] ∧ Blk w' PB 53 #[.int .i64 t, .int .i64 p, .int .i64 u, .int .i64 q] ∧ w'.ownsRow (w.heap.size + 2) 83 2 (.slice A' k c') k (spC xs k) ∧ Below w.heap.size w w') :=
        fun w' hh => ⟨hb1'.below hh (by omega), hb2'.below hh (by omega), hP.below hh hPlt', ownsRow_below' ho' hh, hb.trans ((gtr hbP hh).mono hzr)⟩
      have hne1 : ¬ PB = w.heap.size + 1 := by omega
      have hne2 : ¬ w.heap.size + 1 = PB := by omega
      have HOB : Hid (some PB ≠ (Value.slice A' k c').ownBlock) := fun hg => by have := (ho.lt PB hg.symm).2; omega
      clear hPB hb1' hb2' hP ho' hb1 hb2 ho hPlt hbP k0 k1 k2 k3
      have tok1 : True := trivial; have tok2 : True := trivial
      go_region_law (first
          | (have _t := tok1; go_simp; go_at_call 29; refine (HX1.out _).mono ?_; rintro e w1 ⟨rfl, hc1⟩; have g1 := gtr (gdrew (a := V)) hc1; obtain ⟨-, e2, e3, -, -⟩ := HS.out _ g1; have m0 := e2.cell 0; have m1 := e3.cell 0; have m2 := e3.cell 1; have m3 := e3.cell 2; have m4 := e3.cell 3; clear e2 e3 tok1; dsimp only)
          | (have _t := tok2; go_simp; go_at_call 29; refine (HX2.out _).mono ?_; rintro e w2 ⟨rfl, hc2⟩; have g2 := gtr g1 hc2; obtain ⟨-, f2, f3, -, -⟩ := HS.out _ g2; have n0 := f2.cell 0; have n1 := f3.cell 0; have n2 := f3.cell 1; have n3 := f3.cell 2; have n4 := f3.cell 3; have n9 : ∀ o', (w2.alloc o').cell? ⟨w.heap.size + 1, 0, none⟩ = some (.slice A' k c') := (fun o' => (Blk.alloc f2 o').cell 0); clear f2 f3 tok2; dsimp only)
          | (refine step_append_k (by rfl) (.tmp 14) (.tmp 22) 58 83 (.agg #[.int .i64 0, .int .i64 0]) 2 16 (by rfl) Try.underlying58 infoSpot rfl (by omega) (by omega) (w.heap.size + 2) (.slice A' k c') k (spC xs k) (by rfl) (ownsRow_below' (HS.out _ g2).2.2.2.1 (bel1 _ _)) w2.heap.size #[.int .i64 a, .int .i64 v] (by rfl) (Blk.new _ _ _) rfl (fun u hu => by simp at hu; rcases hu with rfl | rfl <;> rfl) (by omega) (by have := g2.size; simp; omega) ?_; intro A3 c3 w3 ho3 hb3 hg3; obtain ⟨s1, s2, s3, s4, s5⟩ := HS.out _ g2; have t1 := (s1.alloc _).below hb3 (by omega); have t2 := (s2.alloc _).below hb3 (by omega); have t3 := (s3.alloc _).grown hg3 HOB.out; have x0 := t2.cell 0; have x1 := t3.cell 0; have x2 := t3.cell 1; have x3 := t3.cell 2; have x4 := t3.cell 3; have xf := t2.frozen 0; have hz3 := hb3.size; have hB3 : Below w.heap.size w w3 := (Below.alloc s5 (by have := s5.size; omega) _).trans (hb3.mono (by omega)); clear s1 s2 s3 s4 s5 t3))
      all_goals
        have hB5 : Below w.heap.size w (w3.setCell ⟨w.heap.size + 1, 0, none⟩ (.slice A3 (k + 1) c3)) := hB3.setCell (by simp) _
        have t5 : Blk (w3.setCell ⟨w.heap.size + 1, 0, none⟩ (.slice A3 (k + 1) c3)) w.heap.size 60 #[.slice none 0 0, .int .i64 0] := t1.far (by simp) _
        have t6 : Blk (w3.setCell ⟨w.heap.size + 1, 0, none⟩ (.slice A3 (k + 1) c3)) (w.heap.size + 1) 60 #[.slice A3 (k + 1) c3, .int .i64 0] := t2.set 0 _
        have hlo : ∀ g, (Value.slice A3 (k + 1) c3).ownBlock = some g → w.heap.size + 2 ≤ g := fun g hg => (ho3.lt g hg).1
        have t7 : (w3.setCell ⟨w.heap.size + 1, 0, none⟩ (.slice A3 (k + 1) c3)).ownsRow (w.heap.size + 2) 83 2 (.slice A3 (k + 1) c3) (k + 1) (spC xs (k + 1)) := by
          rw [HSP.out]
          exact ownsRow_far ho3 (fun hg => Nat.not_succ_le_self (w.heap.size + 1) (hlo _ hg))
        have hz5 : w.heap.size + 2 ≤ w3.heap.size := by have := g2.size; simp at hz3; omega
        have HT5 := Lib.hid t5; have HT6 := Lib.hid t6; have HT7 := Lib.hid t7; have HB5 := Lib.hid hB5
        clear m0 m1 m2 m3 m4 n0 n1 n2 n3 n4 n9 x0 x1 x2 x3 x4 xf t1 t2 t5 t6 t7 hB5 hB3 ho3 hb3 hg3 hlo q0 p0 p1 p2 p3 hc1 hc2 g1 g2
        go_wp2
        go_roundw
        case rel => exact ⟨k + 1, A3, c3, by go_num, by omega, HT5.out, HT6.out, HT7.out, HB5.out, by simp; omega⟩
        case measure => simp [intOf]; omega
    · obtain rfl : k = xs.length := by omega
      have r0 : wr.cell? ⟨w.heap.size, 0, none⟩ = some (.slice none 0 0) := hb1.cell 0
      have r1 : wr.cell? ⟨w.heap.size, 1, none⟩ = some (.int .i64 0) := hb1.cell 1
      have rf0 : wr.frozen? ⟨w.heap.size, 0, none⟩ = false := hb1.frozen 0
      have rf1 : wr.frozen? ⟨w.heap.size, 1, none⟩ = false := hb1.frozen 1
      have s0 : wr.cell? ⟨w.heap.size + 1, 0, none⟩ = some (.slice A' xs.length c') := hb2.cell 0
      have s1 : wr.cell? ⟨w.heap.size + 1, 1, none⟩ = some (.int .i64 0) := hb2.cell 1
      have HO := Lib.hid ho; have HB := Lib.hid hb; have HLO : Hid (∀ g, (Value.slice A' xs.length c').ownBlock = some g → w.heap.size + 2 ≤ g) := fun g hg => (ho.lt g hg).1
      clear hb1 hb2 ho hb
      go_wp2
      refine bodyPost_ret (v := .agg #[.slice A' xs.length c', .int .i64 0]) (by simp [results, Try.results27, go_sem, r0, r1]) rfl ⟨A', c', rfl, ?_, ?_⟩
      · exact RdS.of_own (ownsRow_far (ownsRow_far HO.out (fun hg => by have := HLO.out _ hg; simp at this; omega)) (fun hg => by have := HLO.out _ hg; simp at this; omega))
      · exact (HB.out.setCell (by simp) _).setCell (by simp) _
end Go.Proofs.Ytidfbbegjpfjpaa
