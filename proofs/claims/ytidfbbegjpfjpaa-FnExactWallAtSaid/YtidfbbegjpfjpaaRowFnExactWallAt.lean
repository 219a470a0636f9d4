/- FnExactWallAt returns true for every input: the row over the walk. Conditions: none. -/
import Derived.Test.YtidfbbegjpfjpaaRows
import Derived.WalkKit
import Derived.ProofKit
import Derived.OpenShut
import Derived.ShutString
import Derived.ChangeOld
import Derived.Below
import Derived.Lib.SmallJoins
import Derived.Deep.Slices
import Derived.ChangeArms
import Derived.Test.YtidfbbegjpfjpaaWalL
namespace Go.Proofs.Ytidfbbegjpfjpaa.fnExactWallAtDone
open Go.ChangeShapes Go.WideShapes Go.ChangeAt Go.RowKit Go.Joins
open Go.ChangeMaps (open_string shut_string)
set_option linter.unusedVariables false
theorem own : ownKnob Try.prog.godebug = none := by kernel_rfl
theorem laidOut : laidOutB Try.prog = true := by kernel_rfl
theorem cells24 : Try.prog.cellsOf 24 = 2 := by kernel_rfl
theorem exists_pts {Q : Nat → Pt → Prop} (n : Nat) (h : ∀ i, i < n → ∃ x, Q i x) : ∃ zs : List Pt, zs.length = n ∧ ∀ i, i < n → Q i (gp zs i) := by
  induction n with
  | zero => exact ⟨[], rfl, fun i hi => absurd hi (by omega)⟩
  | succ n ih =>
    obtain ⟨zs, hl, hz⟩ := ih fun i hi => h i (by omega)
    obtain ⟨x, hx⟩ := h n (by omega)
    refine ⟨zs ++ [x], by simp [hl], fun i hi => ?_⟩
    by_cases e : i = n
    · subst e
      have : gp (zs ++ [x]) i = x := by simp [gp, List.getD, hl]
      rw [this]; exact hx
    · have : gp (zs ++ [x]) i = gp zs i := by simp only [gp, List.getD]; rw [List.getElem?_append_left (by omega)]
      rw [this]; exact hz i (by omega)
theorem cellsE : Try.prog.cellsOf 56 = 4 := by kernel_rfl
theorem cellsD : Try.prog.cellsOf 24 = 2 := by kernel_rfl
theorem cellsI : Try.prog.cellsOf 3 = 1 := by kernel_rfl
theorem two_ints {H : Type} {enc : TypeId × Value → H} {w : World} {base : Nat} {spare : Nat → Bool} {held : Bool} {fuel : Nat} {c d : Value} {y : DataW H × List MemPlace}
    (h : DataW.trod enc Try.prog w base spare held fuel 24 [c, d] = some y) : ∃ a b : Int, c = .int .i64 a ∧ d = .int .i64 b := by
  obtain ⟨us, n2, _, _, _, hul, hg⟩ := DataW.trod_struct Try.underlying24 h
  have hul2 : us.length = 2 := hul
  obtain ⟨u0, u1, rfl⟩ : ∃ u0 u1, us = [u0, u1] := by
    match us, hul2 with
    | [u0, u1], _ => exact ⟨u0, u1, rfl⟩
  have g0 : DataW.trod enc Try.prog w base spare held n2 3 [c] = some u0 := by
    have : DataW.trod enc Try.prog w base spare held n2 3 (List.take (Try.prog.cellsOf 3) (List.drop 0 [c, d])) = some u0 := hg 0 _ rfl
    rw [cellsI] at this
    simpa using this
  have g1 : DataW.trod enc Try.prog w base spare held n2 3 [d] = some u1 := by
    have : DataW.trod enc Try.prog w base spare held n2 3 (List.take (Try.prog.cellsOf 3) (List.drop 1 [c, d])) = some u1 := hg 1 _ rfl
    rw [cellsI] at this
    simpa using this
  obtain ⟨a, ea, _⟩ := DataW.trod_int Try.underlying3 g0
  obtain ⟨b, eb, _⟩ := DataW.trod_int Try.underlying3 g1
  exact ⟨a, b, by simpa using ea, by simpa using eb⟩
theorem open_points {H : Type} {enc : TypeId × Value → H} {w : World} {base : Nat} {spare : Nat → Bool} {held : Bool} {fuel : Nat} {a : Option Addr} {len cap : Nat} {x : DataW H × List MemPlace}
    (h : DataW.trod enc Try.prog w base spare held fuel 22 [.slice a len cap] = some x) : ∃ zs, IsPts w a len cap zs := by
  rcases Go.Deep.open_slice Try.underlying22 h with ⟨hcs, _⟩ | ⟨x', l, c, m, n, D, Pl, hcs, _, hl, hm, hmm, _, hi⟩
  · simp at hcs
    obtain ⟨rfl, rfl, rfl⟩ := hcs
    exact ⟨[], .inl ⟨rfl, rfl, rfl, rfl⟩⟩
  · simp at hcs
    obtain ⟨rfl, rfl, rfl⟩ := hcs
    have hle : len ≤ m := by rw [hmm]; split <;> omega
    obtain ⟨zs, hz, hc⟩ := exists_pts (Q := fun i p => w.cell? (x'.add (i * 4)) = some (.int .i64 p.t) ∧ w.cell? (x'.add (i * 4 + 1)) = some (.int .i64 p.p) ∧ w.cell? (x'.add (i * 4 + 2)) = some (.int .i64 p.u) ∧ w.cell? (x'.add (i * 4 + 3)) = some (.int .i64 p.q)) len (fun i hil => by
      obtain ⟨cs', hcc, ht'⟩ := hi i (by omega)
      rw [cellsE] at hcc
      obtain ⟨_, hlen, hat⟩ := World.cells?_some hcc
      obtain ⟨c0, c1, c2, c3, rfl⟩ : ∃ c0 c1 c2 c3, cs' = [c0, c1, c2, c3] := by
        match cs', hlen with
        | [c0, c1, c2, c3], _ => exact ⟨c0, c1, c2, c3, rfl⟩
      obtain ⟨ys, n', _, _, _, hyl, hf⟩ := DataW.trod_struct Try.underlying56 ht'
      have hyl2 : ys.length = 2 := hyl
      obtain ⟨y0, y1, rfl⟩ : ∃ y0 y1, ys = [y0, y1] := by
        match ys, hyl2 with
        | [y0, y1], _ => exact ⟨y0, y1, rfl⟩
      have f0 : DataW.trod enc Try.prog w base spare held n' 24 [c0, c1] = some y0 := by
        have : DataW.trod enc Try.prog w base spare held n' 24 (List.take (Try.prog.cellsOf 24) (List.drop 0 [c0, c1, c2, c3])) = some y0 := hf 0 _ rfl
        rw [cellsD] at this
        simpa using this
      have f1 : DataW.trod enc Try.prog w base spare held n' 24 [c2, c3] = some y1 := by
        have : DataW.trod enc Try.prog w base spare held n' 24 (List.take (Try.prog.cellsOf 24) (List.drop 2 [c0, c1, c2, c3])) = some y1 := hf 1 _ rfl
        rw [cellsD] at this
        simpa using this
      obtain ⟨t, p, rfl, rfl⟩ := two_ints f0
      obtain ⟨u, q, rfl, rfl⟩ := two_ints f1
      have h0 := hat 0 (by omega); have h1 := hat 1 (by omega); have h2 := hat 2 (by omega); have h3 := hat 3 (by omega)
      rw [Go.Deep.add_add] at h0 h1 h2 h3
      exact ⟨⟨t, p, u, q⟩, by simpa using h0, by simpa using h1, by simpa using h2, by simpa using h3⟩)
    exact ⟨zs, .inr ⟨x', rfl, hl, hm, hz, fun i hi => hc i (by omega)⟩⟩
set_option maxRecDepth 100000 in
theorem lifted (os : Os) (started : os.Started) (H : Type) (enc : TypeId × Value → H) :
    ReturnsInHanded {} Try.checked os 3 .any (Rows.fnExactWallAtSpec.pre6 enc Try.prog Try.f3 Rows.fnExactWallAtRow.domain false) (Rows.fnExactWallAtSpec.post enc Try.prog Try.f3 false true false false) := by
  refine returnsInHanded_of_change (C := Try.checked) own started (by kernel_rfl) Try.func3
    (ChangeSpec.witness6 (enc := enc) (C := Try.checked) false ⟨#[], #[.slice none 0 0, .agg #[.int .i64 0, .int .i64 0]], []⟩ 8 (by kernel_rfl) (by kernel_rfl) (by kernel_rfl) (by kernel_rfl)) ?_
  intro W base args ds gs before hval0 hW hcnd _
  have hval : ∀ (j : Nat) t v, Try.f3.params[j]? = some t → args[j]? = some v → Value.okWide Try.prog W .any base t v := hval0
  have hW' := hW
  obtain ⟨p, q, hA0, hV, rfl, hfz, hnd⟩ := hW
  have hA : DataW.TrodAll enc Try.prog W 0 (fun _ => true) true Try.f3.params.toList args.toList ds p := hA0
  rw [Try.params3] at hA hval
  obtain ⟨v0, vs0, d0, ds0, p0, q0, hargs, rfl, rfl, h0, r0⟩ := trodAll_cons hA
  obtain ⟨v1, vs1, d1, ds1, p1, q1, rfl, rfl, rfl, h1, r1⟩ := trodAll_cons r0
  obtain ⟨rfl, rfl, rfl⟩ := trodAll_nil r1
  obtain rfl : args = #[v0, v1] := by cases args; simp_all
  obtain ⟨rfl, rfl⟩ := trodVars_none hV
  have k0 := h0
  have lt0 : ∀ x ∈ p0, x.block < W.heap.size := by obtain ⟨m, hm⟩ := k0; exact DataW.trod_lt m _ _ _ hm
  have k1 := h1
  have lt1 : ∀ x ∈ p1, x.block < W.heap.size := by obtain ⟨m, hm⟩ := k1; exact DataW.trod_lt m _ _ _ hm
  obtain ⟨a0, len0, cap0, rfl⟩ := okWide_slice Try.underlying22 (hval 0 22 v0 rfl rfl)
  obtain ⟨z0, w0⟩ : ∃ zs, IsPts W a0 len0 cap0 zs := by
    obtain ⟨fuel, hf⟩ := h0
    exact open_points hf
  obtain ⟨c1, e1, y1, x1, m1, rfl, hd1, hp1, hy1, hx1⟩ := open_agg2 Try.underlying24 (by kernel_rfl) cells24 (hval 1 24 v1 rfl rfl) h1
  obtain ⟨a1, ea1, _, w1⟩ := DataW.trod_int Try.underlying3 hy1
  obtain ⟨b1, eb1, _, u1⟩ := DataW.trod_int Try.underlying3 hx1
  simp at ea1 eb1; subst ea1 eb1
  clear hA0 hval0
  refine (lawWallAt a0 len0 cap0 z0 a1 b1 W w0 w1 u1).mono fun e W' ⟨he, bel⟩ => ?_
  subst he
  exact ⟨_, rfl, _, _, _, [], _, [], hW', trodAll_mk1 (shut_bool Try.underlying4 _), (trodAll_cons_mk (Below.trod laidOut (by kernel_rfl) (of_decide_eq_true (by kernel_rfl)) k0 bel lt0) (trodAll_cons_mk (Below.trod laidOut (by kernel_rfl) (of_decide_eq_true (by kernel_rfl)) k1 bel lt1) trodAll_mk0)), rfl, bel.frame _, fun h => by cases h⟩

theorem over : Rows.fnExactWallAtRow.holds Try.pinned (OpenSpec.ofChange Rows.fnExactWallAtSpec) :=
  OpenClaim.holds_of_wide 3 Try.f3 rfl rfl rfl rfl rfl rfl rfl ⟨rfl, rfl, rfl, rfl, rfl⟩ rfl rfl rfl rfl rfl (by kernel_rfl) Try.func3 (by kernel_rfl)
    (of_decide_eq_true (by kernel_rfl)) (by unfold Func.isWrapper; first | (rw [if_pos (by decide +kernel)]; kernel_rfl) | (rw [if_neg (by decide +kernel)]; exact ⟨rfl, rfl⟩))
    (fun os started H enc _ => lifted os started H enc)
/-- The statement. -/
theorem proved : Rows.FnExactWallAtSaid := over
#print axioms proved
end Go.Proofs.Ytidfbbegjpfjpaa.fnExactWallAtDone
