/- FnExactStarForm returns true for every input: the row over the walk. Conditions: none. -/
import Derived.Test.YtdjchjmmpjofcaaDoorCards
import Derived.Test.YtdjchjmmpjofcaaDoorTie
import Derived.Test.YtdjchjmmpjofcaaDoorFacts
import Derived.LaidMore
import Derived.Lay
import Derived.SevenTiedAt
import Derived.Stop.Joined
import Derived.Test.YtdjchjmmpjofcaaDoorRows
import Derived.WalkKit
import Derived.ProofKit
import Derived.OpenShut
import Derived.ShutString
import Derived.ChangeOld
import Derived.Below
import Derived.Lib.SmallJoins
import Derived.Test.YtdjchjmmpjofcaaDoorSfL
namespace Go.Proofs.YtdjchjmmpjofcaaDoor.fnExactStarFormDone
open Go.ChangeShapes Go.WideShapes Go.ChangeAt Go.RowKit Go.Joins
open Go.ChangeMaps (open_string shut_string)
set_option linter.unusedVariables false
theorem own : ownKnob Tryd.prog.godebug = none := by kernel_rfl
theorem laidOut : laidOutB Tryd.prog = true := t_laid
set_option maxRecDepth 100000 in
theorem lifted (os : Os) (started : os.Started) (H : Type) (enc : TypeId × Value → H) :
    ReturnsInHanded {} Tryd.checked os 3 .any (fun w args => (Rows.fnExactStarFormSpec.pre enc Tryd.prog Tryd.f3 Rows.fnExactStarFormRow.domain false w args ∧ laidMetH Tryd.prog Rows.fnExactStarFormRow.laid w) ∧ sizedMet enc Tryd.prog Tryd.f3 (OpenSpec.ofChange Rows.fnExactStarFormSpec) false w args) (Rows.fnExactStarFormSpec.post enc Tryd.prog Tryd.f3 false true false false) := by
  refine returnsInHanded_of_change_and (C := Tryd.checked) (X := fun w _ => laidMetH Tryd.prog Rows.fnExactStarFormRow.laid w) (fun _ _ _ hh h => h.of_heap hh) own started (by kernel_rfl) Tryd.func3
    (ChangeSpec.witness_shaped (enc := enc) (C := Tryd.checked) (os := os) (X := fun w _ => laidMetH Tryd.prog Rows.fnExactStarFormRow.laid w) false (World.laidAll Tryd.prog os Rows.fnExactStarFormRow.laid) #[.int .i64 0] 8 (World.laidAll_os _ _ _)
      (World.shaped_of_ZipB (by kernel_rfl) (by kernel_rfl)) (by kernel_rfl) (by kernel_rfl) (by kernel_rfl)
      (by rw [MakeChecks.laidMetH_plain _ _ _ (by kernel_rfl)]; exact laidMet_laidAll _ (by kernel_rfl) (by kernel_rfl))) ?_
  intro W base args ds gs before hval0 hW hcnd _ hL _
  have hval : ∀ (j : Nat) t v, Tryd.f3.params[j]? = some t → args[j]? = some v → Value.okWide Tryd.prog W .any base t v := hval0
  have hW' := hW
  obtain ⟨p, q, hA0, hV, rfl, hfz, hnd⟩ := hW
  have hA : DataW.TrodAll enc Tryd.prog W 0 (fun _ => true) true Tryd.f3.params.toList args.toList ds p := hA0
  rw [Tryd.params3] at hA hval
  obtain ⟨v0, vs0, d0, ds0, p0, q0, hargs, rfl, rfl, h0, r0⟩ := trodAll_cons hA
  obtain ⟨rfl, rfl, rfl⟩ := trodAll_nil r0
  obtain rfl : args = #[v0] := by cases args; simp_all
  obtain ⟨rfl, rfl⟩ := trodVars_none hV
  have k0 := h0
  have lt0 : ∀ x ∈ p0, x.block < W.heap.size := by obtain ⟨m, hm⟩ := k0; exact DataW.trod_lt m _ _ _ hm
  obtain ⟨a0, rfl, hd0, hp0, w0⟩ := open_int Tryd.underlying3 (hval 0 3 v0 rfl rfl) h0
  clear hA0 hval0
  refine (lawStarForm a0 W w0).mono fun e W' ⟨he, bel⟩ => ?_
  subst he
  exact ⟨_, rfl, _, _, _, [], _, [], hW', trodAll_mk1 (shut_bool Tryd.underlying4 _), (trodAll_cons_mk (Below.trod laidOut (by kernel_rfl) (of_decide_eq_true (by kernel_rfl)) k0 bel lt0) trodAll_mk0), rfl, bel.frame _, fun h => by cases h⟩

set_option maxHeartbeats 6400000 in
theorem t_closed : joinedFacts Tryd.pinned.checked.prog 3 Tryd.f3 Rows.fnExactStarFormSpec Rows.fnExactStarFormRow = true := by
  unfold joinedFacts
  simp only [Bool.and_eq_true]
  repeat' apply And.intro
  · (as_aux_lemma => kernel_rfl)
  · exact t_laid
  · exact t_rowed
  · (as_aux_lemma => kernel_rfl)
  · (as_aux_lemma => kernel_rfl)
  · (as_aux_lemma => kernel_rfl)
  · exact t_stops
  · (as_aux_lemma => kernel_rfl)
  · exact t_knobs
  · (as_aux_lemma => kernel_rfl)
  · (as_aux_lemma => kernel_rfl)
  · (as_aux_lemma => kernel_rfl)
  · (as_aux_lemma => kernel_rfl)
  · (as_aux_lemma => kernel_rfl)
  · (as_aux_lemma => kernel_rfl)
  · (as_aux_lemma => kernel_rfl)
  · (as_aux_lemma => kernel_rfl)
  · (as_aux_lemma => kernel_rfl)
  · (as_aux_lemma => kernel_rfl)
  · (as_aux_lemma => kernel_rfl)
  · (as_aux_lemma => kernel_rfl)
  · (as_aux_lemma => kernel_rfl)
  · exact t_keys
  · (as_aux_lemma => kernel_rfl)
  · exact t_heard
  · exact t_enter
  · exact t_lifts
  · exact t_make
  · (as_aux_lemma => kernel_rfl)
  · (as_aux_lemma => kernel_rfl)
  · (as_aux_lemma => kernel_rfl)
  · (as_aux_lemma => kernel_rfl)
theorem t_name : Tryd.pinned.checked.prog.funcNamed Rows.fnExactStarFormRow.func = some 3 := by kernel_rfl
theorem over : Rows.fnExactStarFormRow.holds Tryd.pinned (OpenSpec.ofChange Rows.fnExactStarFormSpec) :=
  OpenClaim.holds_of_wide 3 Tryd.f3 rfl rfl rfl rfl rfl rfl rfl ⟨rfl, rfl, rfl, rfl, rfl⟩ rfl rfl rfl rfl rfl t_name Tryd.func3 t_closed
    (of_decide_eq_true (by kernel_rfl)) (by unfold Func.isWrapper; first | (rw [if_pos (by decide +kernel)]; kernel_rfl) | (rw [if_neg (by decide +kernel)]; exact ⟨rfl, rfl⟩))
    (fun os started H enc _ => lifted os started H enc)
theorem t_wf : Rows.fnExactStarFormRow.wfByText (OpenSpec.ofChange Rows.fnExactStarFormSpec) = true := by kernel_rfl
theorem t_fn : Tryd.prog.funcNamed "loop.example/g00868/laws.FnExactStarForm" = some 3 := t_name
theorem t_all : ([3].all fun u => !Tryd.prog.wantsStandIn u) = true := by kernel_rfl
theorem t_goes : false = Rows.fnExactStarFormRow.goesBy Tryd.pinned.checked.prog := by kernel_rfl
/-- The statement: the tied card. -/
theorem proved : Rows.FnExactStarFormCardSaid :=
  Claim7.holds_tied_plain_at .later [] [.data, .data, .data] true (true, "d5915132686d6de2f15c4628995eca974bc612480e867c5769eaf62f349d61b8") false over (fun _ h => by cases h) t_wf (fun _ h => by cases h) fnExactStarForm_row_tie rfl ⟨rfl, rfl⟩ t_main rfl
    (fun f fn hf hfn => by
      obtain rfl : f = 3 := Option.some.inj (t_fn.symm.trans hf) |>.symm
      obtain rfl : fn = Tryd.f3 := (Option.some.inj (Tryd.func3.symm.trans hfn)).symm
      exact ⟨t_looks, fun j t ht => by
        rw [Tryd.params3] at ht
        have hm : t ∈ [3] := by simpa using Array.mem_of_getElem? ht
        exact (show Tryd.prog.wantsStandIn t = false by simpa using List.all_eq_true.1 t_all t hm)⟩)
    t_goes
#print axioms proved
end Go.Proofs.YtdjchjmmpjofcaaDoor.fnExactStarFormDone
