/- A star put into a new pool: the program's newPool and star, by contract. Conditions: none. -/
import Derived.Test.YtdjchjmmpjofcaaDoorNod
namespace Go.Proofs.YtdjchjmmpjofcaaDoor
open Go.RowKit Go.Maps
set_option linter.unusedVariables false

set_option maxHeartbeats 1600000 in
theorem newPool_any (w : World) :
    Calls Tryd.prog 11 #[] w fun e w' => ∃ p mf, e = .returned (.pointer (some ⟨p, 0, none⟩)) ∧ PoolG w' w.heap.size p mf 0 0 0 0 (.slice none 0 0) (.slice none 0 0) (.slice none 0 0) [] [] ∧ Below w.heap.size w w' := by
  have hmk : ∀ (t : TypeId) (w : World), (Instr.makeMap t none).run Tryd.prog w = .ok (.map (some w.heap.size)) (w.alloc (.map #[] 0)) := fun t w => run_makeMap t w
  go_enter Tryd.func11, Tryd.ntmps11
  go_wp2
  go_ret
  refine ⟨_, w.heap.size, rfl, ?_, ?_⟩
  · have hF := FindM.new w
    have hb : Below (w.alloc (.map #[] 0)).heap.size (w.alloc (.map #[] 0)) ((((((w.alloc (Obj.map #[] 0)).alloc (Obj.map #[] 0)).alloc (Obj.map #[] 0)).alloc (Obj.map #[] 0)).alloc (Obj.map #[] 0)).alloc (Obj.cells #[.slice none 0 0, .slice none 0 0, .slice none 0 0, .map (some w.heap.size), .map (some (w.heap.size + 1)), .map (some (w.heap.size + 1 + 1)), .map (some (w.heap.size + 1 + 1 + 1)), .map (some (w.heap.size + 1 + 1 + 1 + 1))] 47)) :=
      (((((Below.refl _ _).alloc (Nat.le_refl _) _).alloc (by simp) _).alloc (by simp) _).alloc (by simp) _).alloc (by simp) _
    have hN : ∀ (W : World) (E : TypeId), Own W w.heap.size E (.slice none 0 0) [] := fun W E => ⟨rfl, Or.inl ⟨rfl, rfl⟩⟩
    exact ⟨by omega, Nat.le_refl _, ⟨_, _, _, _, Blk.new_at _ _ _ (by simp)⟩, hN _ _, hN _ _, hN _ _, hF.kept (grown_below hb none) (by simp), rfl, rfl, fun i u hi => by simp at hi, fun i u hi => by simp at hi, Or.inl rfl⟩
  · exact (((((bel1 _ _).alloc (by simp) _).alloc (by simp; omega) _).alloc (by simp; omega) _).alloc (by simp; omega) _).alloc (by simp; omega) _

/-- The pool stays while a row that is none of its own is written on. -/
theorem PoolG.keptL {w w' : World} {lo p mf kL kR kB kF : Nat} {vL vR vB l : Value} {us vs xs : List Value} (h : PoolG w lo p mf kL kR kB kF vL vR vB us vs) (ho : Own w lo 3 l xs) (hg : w.grownBy w' l.ownBlock) (hf : Fre l vB)
    (hus : ∀ u, u ∈ us → Fre u l) (hvs : ∀ u, u ∈ vs → Fre u l) : PoolG w' lo p mf kL kR kB kF vL vR vB us vs := by
  obtain ⟨m1, m2, m3, m4, hblk⟩ := h.blk
  obtain ⟨D, hD, hDk⟩ := h.F
  exact h.keptO hg (fun e => neBlk ho hblk neIP e.symm) (fun e => neMap ho hD e.symm) (neT h.L ho neIR.symm) (neT h.R ho neIR.symm) hf.sym (fun i u hi => hus u (List.mem_of_getElem? hi)) (fun i u hi => hvs u (List.mem_of_getElem? hi))
set_option maxHeartbeats 1600000 in
theorem star_any (lo p mf n : Nat) (w : World) (hn : n ≤ 15) (hlo : lo ≤ w.heap.size) (hP : PoolG w lo p mf 0 0 0 0 (.slice none 0 0) (.slice none 0 0) (.slice none 0 0) [] []) :
    Calls Tryd.prog 13 #[.pointer (some ⟨p, 0, none⟩), .int .i64 (n : Int)] w fun e w' => e = .returned (.int .i64 (n : Int)) ∧ Below lo w w' ∧ ∃ vL vR vB us vs, PoolG w' lo p mf (n + 1) (n + 1) (n + 1) (n + 1) vL vR vB us vs := by
  have HP := Lib.hid hP
  clear hP
  go_enter Tryd.func13, Tryd.ntmps13
  go_wp2_with fail
  have HE := Lib.hid ((Own.empty w 3 3 w.heap.size (Nat.le_refl _)).le hlo)
  have HP0 := Lib.hid (HP.out.below (bel1 w (.cells #[] 3)))
  have HB0 := Lib.hid ((bel1 w (.cells #[] 3)).mono hlo)
  clear HP
  generalize w.alloc (.cells #[] 3) = V at *
  go_loopw [5, 8] (fun x i wr => ∃ (k g c : Nat) (vL vR vB : Value) (us vs : List Value), i = .int .i64 k ∧ k ≤ n ∧ x = .slice (some ⟨g, 0, none⟩) k c ∧ Own wr lo 3 (.slice (some ⟨g, 0, none⟩) k c) (ints (rng k)) ∧ Fre (.slice (some ⟨g, 0, none⟩) k c) vB ∧ (∀ u, u ∈ us → Fre u (.slice (some ⟨g, 0, none⟩) k c)) ∧ (∀ u, u ∈ vs → Fre u (.slice (some ⟨g, 0, none⟩) k c)) ∧ PoolG wr lo p mf k k k k vL vR vB us vs ∧ Below lo w wr) (fun _ i _ => n - (intOf i).toNat)
  case atStart => exact ⟨0, _, _, _, _, _, [], [], rfl, Nat.zero_le _, rfl, HE.out, Or.inr (fun e => by cases e), fun u hu => (by cases hu), fun u hu => (by cases hu), HP0.out, HB0.out⟩
  case round =>
    clear HE HP0 HB0
    obtain ⟨k, g, c, vL, vR, vB, us, vs, rfl, hk, rfl, ho, hf, hus, hvs, hP, hb⟩ := hrel
    have hzr := hb.size
    have HN := Lib.hid (node_any lo p mf k g c vL vR vB us vs wr (by omega) (by omega) hP ho)
    have HX := Lib.hid (And.intro ho (And.intro hf (And.intro hus hvs)))
    clear ho hf hus hvs hP
    by_cases hlt : k < n
    · go_wp2_with (first | (go_at_call 20; (with_reducible refine HN.out.mono ?_); rintro e w2 ⟨rfl, hb2, vL2, vR2, vB2, us2, vs2, hP2, hpass⟩; have hq := hpass _ _ HX.out.1 HX.out.2.1 HX.out.2.2.1 HX.out.2.2.2; have HQ := Lib.hid hq; have HP2 := Lib.hid hP2; have hz2 := hb2.size; clear hpass hq hP2) | (at_builtin; refine append_int_at rfl _ _ rfl lo (.slice (some ⟨g, 0, none⟩) k c) (rng k) rfl (own_ints.2 (HQ.out.1.below (bel1 _ _))) _ (k : Int) rfl (Blk.new_at _ _ _ (by simp)) (by rw [rng_len]; omega) (by simp; omega) ?_; intro A5 c5 w5 ho5 hb5 hg5 hp5))
      have hb21 := bel1 w2 (.cells #[.int .i64 (k : Int)] 3)
      have hP5 := (HP2.out.below hb21).keptL (HQ.out.1.below hb21) hg5 HQ.out.2.1 HQ.out.2.2.1 HQ.out.2.2.2
      rw [← rng_succ, rng_len] at ho5
      rw [rng_len] at hp5
      have ho6 := own_ints.1 ho5
      obtain ⟨g5, rfl, -⟩ := ho6.at (by rw [ints_len, rng_len]; omega)
      rw [rng_len]
      have hpos : ∀ u xs, Own w2 lo 3 u xs → Fre u (.slice (some ⟨g, 0, none⟩) k c) → Fre u (.slice (some ⟨g5, 0, none⟩) (k + 1) c5) := fun u xs hu hf => by
        rcases hp5 with e | e
        · rcases hf with e3 | e3
          · exact .inl e3
          · exact .inr (by rw [e]; exact e3)
        · exact .inr fun e2 => by
            have := (hu.lt _ (e2.trans e)).2
            have := hb21.size
            omega
      have hrel : _ := And.intro ho6 (And.intro (hpos _ _ HP2.out.B HQ.out.2.1.sym).sym (And.intro (fun u (hu : u ∈ us2) => (by obtain ⟨i, hi⟩ := List.mem_iff_getElem?.1 hu; exact hpos _ _ (HP2.out.ur i u hi).1 (HQ.out.2.2.1 u hu) : Fre u (.slice (some ⟨g5, 0, none⟩) (k + 1) c5))) (fun u (hu : u ∈ vs2) => (by obtain ⟨i, hi⟩ := List.mem_iff_getElem?.1 hu; exact hpos _ _ (HP2.out.vr i u hi).1 (HQ.out.2.2.2 u hu) : Fre u (.slice (some ⟨g5, 0, none⟩) (k + 1) c5)))))
      have HR := Lib.hid hrel
      have HP5 := Lib.hid hP5
      have HB5 := Lib.hid (((hb.trans hb2).trans ((Below.refl _ _).alloc (by omega) _)).trans hb5)
      clear hrel hP5 ho5 ho6 hg5 hp5 hpos hb5 hb21
      go_roundw
      case rel => exact ⟨k + 1, g5, c5, vL2, vR2, vB2, us2, vs2, by go_num, by omega, rfl, HR.out.1, HR.out.2.1, HR.out.2.2.1, HR.out.2.2.2, HP5.out, HB5.out⟩
      case measure => simp [intOf]; omega
    · obtain rfl : k = n := by omega
      go_wp2_with (go_at_call 20; (with_reducible refine HN.out.mono ?_); rintro e w2 ⟨rfl, hb2, vL2, vR2, vB2, us2, vs2, hP2, -⟩)
      go_ret
      exact ⟨rfl, hb.trans hb2, vL2, vR2, vB2, us2, vs2, hP2⟩
end Go.Proofs.YtdjchjmmpjofcaaDoor
