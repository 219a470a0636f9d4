/- FnExactBoardParts returns true for every input: the row over the walk. Conditions: none. -/
import Derived.Test.YtadljglcbieifaaDoorCards
import Derived.Test.YtadljglcbieifaaDoorTie
import Derived.Test.YtadljglcbieifaaDoorFacts
import Derived.LaidMore
import Derived.Lay
import Derived.SevenTiedAt
import Derived.Stop.Joined
import Derived.Test.YtadljglcbieifaaDoorRows
import Derived.WalkKit
import Derived.ProofKit
import Derived.OpenShut
import Derived.ShutString
import Derived.ChangeOld
import Derived.Below
import Derived.Lib.SmallJoins
import Derived.Test.YtadljglcbieifaaDoorPtLaw
namespace Go.Proofs.YtadljglcbieifaaDoor.fnExactBoardPartsDone
open Go.ChangeShapes Go.WideShapes Go.ChangeAt Go.RowKit Go.Joins
open Go.ChangeMaps (open_string shut_string)
set_option linter.unusedVariables false
theorem own : ownKnob Tryd.prog.godebug = none := by kernel_rfl
theorem laidOut : laidOutB Tryd.prog = true := t_laid
theorem open_agg1 {H : Type} {enc : TypeId × Value → H} {P : Program} {w : World} {base : Nat} {spare : Nat → Bool} {held : Bool} {r : Go.Reach} {b0 : Nat} {t : TypeId} {f0 : Field} {v : Value} {d : DataW H} {p : List MemPlace} (hs : P.underlying t = some (.struct #[f0])) (ho : f0.offset = 0) (hC : P.cellsOf t = 1) (h1 : P.cellsOf f0.type = 1)
    (hv : Value.okWide P w r b0 t v) (h : DataW.Trod enc P w base spare held t v d p) :
    ∃ (v0 : Value) (y0 : DataW H × List MemPlace) (n : Nat), v = .agg #[v0] ∧ d = .agg [y0.1] ∧ p = y0.2 ∧ DataW.trod enc P w base spare held n f0.type [v0] = some y0 := by
  obtain ⟨cs, rfl, hsz⟩ := okWide_struct hs hv
  obtain ⟨l⟩ := cs
  have hl1 : l.length = 1 := hsz.trans hC
  obtain ⟨c0, rfl⟩ : ∃ c0, l = [c0] := by
    match l, hl1 with
    | [c0], _ => exact ⟨c0, rfl⟩
  obtain ⟨fuel, hf⟩ := h
  obtain ⟨xs, n, _, hx, _, hlen, hel⟩ := DataW.trod_struct hs hf
  obtain ⟨y0, rfl⟩ : ∃ y0, xs = [y0] := by
    match xs, hlen with
    | [y0], _ => exact ⟨y0, rfl⟩
  have h0 := hel 0 f0 rfl
  simp only [Prod.mk.injEq] at hx
  exact ⟨c0, y0, n, rfl, by simpa using hx.1, by simpa using hx.2, by simpa [Value.cells, ho, h1] using h0⟩
theorem cells55 : Tryd.prog.cellsOf 55 = 1 := by kernel_rfl
set_option maxRecDepth 100000 in
theorem lifted (os : Os) (started : os.Started) (H : Type) (enc : TypeId × Value → H) :
    ReturnsInHanded {} Tryd.checked os 6 .any (fun w args => (Rows.fnExactBoardPartsSpec.pre enc Tryd.prog Tryd.f6 Rows.fnExactBoardPartsRow.domain false w args ∧ laidMetH Tryd.prog Rows.fnExactBoardPartsRow.laid w) ∧ sizedMet enc Tryd.prog Tryd.f6 (OpenSpec.ofChange Rows.fnExactBoardPartsSpec) false w args) (Rows.fnExactBoardPartsSpec.post enc Tryd.prog Tryd.f6 false true false false) := by
  refine returnsInHanded_of_change_and (C := Tryd.checked) (X := fun w _ => laidMetH Tryd.prog Rows.fnExactBoardPartsRow.laid w) (fun _ _ _ hh h => h.of_heap hh) own started (by kernel_rfl) Tryd.func6
    (ChangeSpec.witness_shaped (enc := enc) (C := Tryd.checked) (os := os) (X := fun w _ => laidMetH Tryd.prog Rows.fnExactBoardPartsRow.laid w) false (World.laidAll Tryd.prog os Rows.fnExactBoardPartsRow.laid) #[.agg #[.slice none 0 0]] 8 (World.laidAll_os _ _ _)
      (World.shaped_of_ZipB (by kernel_rfl) (by kernel_rfl)) (by kernel_rfl) (by kernel_rfl) (by kernel_rfl)
      (by rw [MakeChecks.laidMetH_plain _ _ _ (by kernel_rfl)]; exact laidMet_laidAll _ (by kernel_rfl) (by kernel_rfl))) ?_
  intro W base args ds gs before hval0 hW hcnd _ hL _
  have hval : ∀ (j : Nat) t v, Tryd.f6.params[j]? = some t → args[j]? = some v → Value.okWide Tryd.prog W .any base t v := hval0
  have hW' := hW
  obtain ⟨p, q, hA0, hV, rfl, hfz, hnd⟩ := hW
  have hA : DataW.TrodAll enc Tryd.prog W 0 (fun _ => true) true Tryd.f6.params.toList args.toList ds p := hA0
  rw [Tryd.params6] at hA hval
  obtain ⟨v0, vs0, d0, ds0, p0, q0, hargs, rfl, rfl, h0, r0⟩ := trodAll_cons hA
  obtain ⟨rfl, rfl, rfl⟩ := trodAll_nil r0
  obtain rfl : args = #[v0] := by cases args; simp_all
  obtain ⟨rfl, rfl⟩ := trodVars_none hV
  have k0 := h0
  have lt0 : ∀ x ∈ p0, x.block < W.heap.size := by obtain ⟨m, hm⟩ := k0; exact DataW.trod_lt m _ _ _ hm
  obtain ⟨c0, y0, m0, rfl, hd0, hp0, hy0⟩ := open_agg1 Tryd.underlying55 rfl cells55 (by kernel_rfl) (hval 0 55 v0 rfl rfl) h0
  obtain ⟨a0, len0, cap0, z0, ec0, w0⟩ : ∃ A n cp ss, c0 = .slice A n cp ∧ IsStrs W A n cp ss := by
    rcases open_strings Tryd.underlying53 Tryd.underlying9 (by kernel_rfl) hy0 with ⟨hcs, _⟩ | ⟨x, l, c, zs, hcs, _, hl, hm, hz, _, hcell, hwz⟩
    · simp at hcs; exact ⟨none, 0, 0, [], hcs, .inl ⟨rfl, rfl, rfl, rfl⟩⟩
    · simp at hcs; exact ⟨some x, l, c, zs, hcs, .inr ⟨x, rfl, hl, hm, by simpa using hz, hcell, hwz⟩⟩
  subst ec0
  clear hA0 hval0
  refine (lawBoardParts a0 len0 cap0 z0 W w0).mono fun e W' ⟨he, bel⟩ => ?_
  subst he
  exact ⟨_, rfl, _, _, _, [], _, [], hW', trodAll_mk1 (shut_bool Tryd.underlying4 _), (trodAll_cons_mk (Below.trod laidOut (by kernel_rfl) (of_decide_eq_true (by kernel_rfl)) k0 bel lt0) trodAll_mk0), rfl, bel.frame _, fun h => by cases h⟩

set_option maxHeartbeats 6400000 in
theorem t_closed : joinedFacts Tryd.pinned.checked.prog 6 Tryd.f6 Rows.fnExactBoardPartsSpec Rows.fnExactBoardPartsRow = true := by
  unfold joinedFacts
  simp only [Bool.and_eq_true]
  repeat' apply And.intro
  · (as_aux_lemma => kernel_rfl)
  · exact t_laid
  · exact t_rowed
  · (as_aux_lemma => kernel_rfl)
  · (as_aux_lemma => kernel_rfl)
  · (as_aux_lemma => kernel_rfl)
  · exact t_stops
  · (as_aux_lemma => kernel_rfl)
  · exact t_knobs
  · (as_aux_lemma => kernel_rfl)
  · (as_aux_lemma => kernel_rfl)
  · (as_aux_lemma => kernel_rfl)
  · (as_aux_lemma => kernel_rfl)
  · (as_aux_lemma => kernel_rfl)
  · (as_aux_lemma => kernel_rfl)
  · (as_aux_lemma => kernel_rfl)
  · (as_aux_lemma => kernel_rfl)
  · (as_aux_lemma => kernel_rfl)
  · (as_aux_lemma => kernel_rfl)
  · (as_aux_lemma => kernel_rfl)
  · (as_aux_lemma => kernel_rfl)
  · (as_aux_lemma => kernel_rfl)
  · exact t_keys
  · (as_aux_lemma => kernel_rfl)
  · exact t_heard
  · exact t_enter
  · exact t_lifts
  · exact t_make
  · (as_aux_lemma => kernel_rfl)
  · (as_aux_lemma => kernel_rfl)
  · (as_aux_lemma => kernel_rfl)
  · (as_aux_lemma => kernel_rfl)
theorem t_name : Tryd.pinned.checked.prog.funcNamed Rows.fnExactBoardPartsRow.func = some 6 := by kernel_rfl
theorem over : Rows.fnExactBoardPartsRow.holds Tryd.pinned (OpenSpec.ofChange Rows.fnExactBoardPartsSpec) :=
  OpenClaim.holds_of_wide 6 Tryd.f6 rfl rfl rfl rfl rfl rfl rfl ⟨rfl, rfl, rfl, rfl, rfl⟩ rfl rfl rfl rfl rfl t_name Tryd.func6 t_closed
    (of_decide_eq_true (by kernel_rfl)) (by unfold Func.isWrapper; first | (rw [if_pos (by decide +kernel)]; kernel_rfl) | (rw [if_neg (by decide +kernel)]; exact ⟨rfl, rfl⟩))
    (fun os started H enc _ => lifted os started H enc)
theorem t_wf : Rows.fnExactBoardPartsRow.wfByText (OpenSpec.ofChange Rows.fnExactBoardPartsSpec) = true := by kernel_rfl
theorem t_fn : Tryd.prog.funcNamed "loop.example/g00868/laws.FnExactBoardParts" = some 6 := t_name
theorem t_all : ([55].all fun u => !Tryd.prog.wantsStandIn u) = true := by kernel_rfl
theorem t_goes : false = Rows.fnExactBoardPartsRow.goesBy Tryd.pinned.checked.prog := by kernel_rfl
/-- The statement: the tied card. -/
theorem proved : Rows.FnExactBoardPartsCardSaid :=
  Claim7.holds_tied_plain_at .later [] [.data, .pinned] true (true, "6de3b8607db2623354fbba34c7f605ef5c6096bda5b2b0895630bb7812279f0b") true over (fun _ h => by cases h) t_wf (fun _ h => by cases h) fnExactBoardParts_row_tie rfl ⟨rfl, rfl⟩ t_main rfl
    (fun f fn hf hfn => by
      obtain rfl : f = 6 := Option.some.inj (t_fn.symm.trans hf) |>.symm
      obtain rfl : fn = Tryd.f6 := (Option.some.inj (Tryd.func6.symm.trans hfn)).symm
      exact ⟨t_looks, fun j t ht => by
        rw [Tryd.params6] at ht
        have hm : t ∈ [55] := by simpa using Array.mem_of_getElem? ht
        exact (show Tryd.prog.wantsStandIn t = false by simpa using List.all_eq_true.1 t_all t hm)⟩)
    t_goes
#print axioms proved
end Go.Proofs.YtadljglcbieifaaDoor.fnExactBoardPartsDone
