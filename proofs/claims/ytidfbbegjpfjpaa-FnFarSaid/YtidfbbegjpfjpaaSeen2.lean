/- SeenIn, by the program and by the reference: contracts. Conditions: none. -/
import Derived.Test.YtidfbbegjpfjpaaSeen
import Derived.Test.YtidfbbegjpfjpaaProved
namespace Go.Proofs.Ytidfbbegjpfjpaa
open Go.RowKit
set_option linter.unusedVariables false

theorem seen_facts {cs : List Int} {p l : Int} (h : provedB cs p l = true) : goodCode cs ∧ 0 ≤ p ∧ 1 ≤ l ∧ p + l ≤ 150 ∧ ∀ k : Nat, (k : Int) < p + l → small255 (V cs (k + 1)) := by
  rw [provedB, decide_eq_true_eq] at h
  obtain ⟨h1, h2, h3, -⟩ := h
  obtain ⟨hg, hp, hn⟩ := needs_pos h1
  have hp' : 0 ≤ p ∧ p ≤ 300 ∧ 1 ≤ l ∧ l ≤ 300 := by simpa [goodPerB] using hp
  refine ⟨hg, hp'.1, hp'.2.2.1, by omega, fun k hk => small255_mono h3 (by omega)⟩
/-- The values from p on, l of them. -/
noncomputable def rowL (cs : List Int) (p l : Nat) : List Int := (nats (V cs (p + l))).drop p
theorem rowL_len (cs : List Int) (p l : Nat) : (rowL cs p l).length = l := by
  unfold rowL
  rw [List.length_drop, nats_len, V_len]; omega
theorem rowL_gi (cs : List Int) (p l i : Nat) (h : i < l) : gi (rowL cs p l) i = gi (nats (V cs (p + l))) (p + i) := by
  unfold rowL gi
  simp [List.getD_eq_getElem?_getD, List.getElem?_drop]
/-- What SeenIn hands back. -/
noncomputable def seenL (cs : List Int) (p l : Int) : List Int := if provedB cs p l = true then putAll (rowL cs p.toNat l.toNat) else []

theorem putAll_len (xs : List Int) : ∀ k : Nat, xs.length ≤ k → (putAll xs).length ≤ k := by
  have : ∀ (xs l : List Int), (xs.foldl putI l).length ≤ l.length + xs.length := by
    intro xs
    induction xs with
    | nil => intro l; simp
    | cons a xs ih =>
      intro l
      have := ih (putI l a)
      have := putI_len l a
      rw [List.foldl_cons, List.length_cons]; omega
  intro k hk
  have := this xs []
  unfold putAll
  simp at this
  omega
/-- A new row of numbers and a sign. -/
def SeenI (w : World) (xs : List Int) (b : Bool) (e : Ending) (w' : World) : Prop :=
  ∃ A c, e = .returned (.tuple #[.slice A xs.length c, .bool b]) ∧ Own w' w.heap.size 3 (.slice A xs.length c) (ints xs) ∧ Below w.heap.size w w'

set_option maxRecDepth 100000 in
set_option maxHeartbeats 1600000 in
theorem seenI_good (A : Option Addr) (c : Nat) (cs : List Int) (p l : Nat) (w : World) (B : Nat) (hB : B ≤ w.heap.size) (h : RdI w B A c cs) (hp : provedB cs p l = true) :
    Calls Try.prog 16 #[.slice A cs.length c, .agg #[.int .i64 p, .int .i64 l]] w (SeenI w (putAll (rowL cs p l)) true) := by
  obtain ⟨f1, f2, f3, f4, f5⟩ := seen_facts hp
  have hs := f5 (p + l - 1) (by omega)
  have hn : p + l - 1 + 1 = p + l := by omega
  rw [hn] at hs
  have HPI : Hid (∀ W, Below w.heap.size w W → Calls Try.prog 34 #[.slice A cs.length c, .agg #[.int .i64 p, .int .i64 l]] W fun e w' => e = .returned (.bool true) ∧ Below W.heap.size W w') := fun W hW => by
    have := provedI_any A c cs p l W B (by have := hW.size; omega) (h.below hW hB); rwa [hp] at this
  have HVI : Hid (∀ W, Below w.heap.size w W → Calls Try.prog 35 #[.slice A cs.length c, .int .i64 ((p : Int) + (l : Int) - 1)] W fun e w' => ∃ A' c', e = .returned (.tuple #[.slice A' (p + l) c', .bool true]) ∧ Own w' W.heap.size 3 (.slice A' (p + l) c') (ints (nats (V cs (p + l)))) ∧ Below W.heap.size W w') := fun W hW => by
    have := valuesI_any A c cs (p + l - 1) W B (by have := hW.size; omega) (h.below hW hB) (by omega) f1
    have e1 : ((p + l - 1 : Nat) : Int) = (p : Int) + (l : Int) - 1 := by omega
    rw [e1] at this
    refine this.mono ?_
    rintro e w' ⟨hv, hb⟩
    rw [hn] at hv
    rcases hv with ⟨_, A', c', he, ho⟩ | ⟨hns, _⟩
    · exact ⟨A', c', he, own_ints.1 ho, hb⟩
    · exact absurd hs hns
  have hf3 : 1 ≤ l := by omega
  have hf4 : p + l ≤ 150 := by omega
  have hpI1 : (0 : Int) ≤ (p : Int) := by omega
  have hpI2 : (p : Int) + (l : Int) ≤ 150 := by omega
  have hpI3 : (1 : Int) ≤ (l : Int) := by omega
  have HL := Lib.hid (rowL_len cs p l)
  have HG := Lib.hid (rowL_gi cs p l)
  have HCP := Lib.hid (compact_put (rowL cs p l))
  clear f1 f2 f3 f4 f5 hs hn hp h
  go_enter Try.func16, Try.ntmps16
  go_wp2_with fail
  have hbW := bel1 w (.cells #[.int .i64 p, .int .i64 l] 39)
  have hP := Blk.new w 39 #[.int .i64 p, .int .i64 l]
  generalize w.alloc (.cells #[.int .i64 p, .int .i64 l] 39) = W at *
  have hzW := hP.lt
  ((with_reducible refine (HPI.out _ hbW).mono ?_); rintro e w1 ⟨rfl, hb1⟩)
  have hP1 := hP.below hb1 hzW
  have g1 := gtr hbW hb1
  have c0 : w1.cell? ⟨w.heap.size, 0, none⟩ = some (.int .i64 p) := hP1.cell 0
  have c1 : w1.cell? ⟨w.heap.size, 1, none⟩ = some (.int .i64 l) := hP1.cell 1
  have hz1 := hb1.size
  go_wp2_with fail
  ((with_reducible refine (HVI.out _ g1).mono ?_); rintro e w2 ⟨A2, c2, rfl, ho2, hb2⟩)
  have hz2 := hb2.size
  have g2 := gtr g1 hb2
  have hP2 := hP1.below hb2 (by omega)
  have d0 : w2.cell? ⟨w.heap.size, 0, none⟩ = some (.int .i64 p) := hP2.cell 0
  have hcap := (ho2.rd).len
  rw [ints_len, nats_len, V_len] at hcap
  obtain ⟨b, o, rfl, hbB, hcell⟩ := ho2.rd.at (j := 0) (by rw [ints_len, nats_len, V_len]; omega)
  have HCL : Hid (∀ i, i < (rowL cs p l).length → w2.cell? ⟨b, o + p + i, none⟩ = some (.int .i64 (gi (rowL cs p l) i))) := fun i hi => by
    rw [HL.out] at hi
    rw [HG.out i hi, Nat.add_assoc]
    exact hcell _ _ (ints_at _ _ (by rw [nats_len, V_len]; omega))
  clear hcell c0 c1 hP hP1
  have hcc1 : ¬ c2 = p := by omega
  have hcc2 : (p : Int) ≤ (c2 : Int) := by omega
  have hcc3 : (p : Int) ≤ (p : Int) + (l : Int) := by omega
  go_wp2_with fail
  have hCl := clone_any b (o + p) (c2 - p) (rowL cs p l) w2 (by rw [HL.out]; omega) HCL.out
  rw [HL.out] at hCl
  ((with_reducible refine hCl.mono ?_); rintro e w3 ⟨g3, k3, rfl, ho3, hb3⟩)
  clear hCl
  have hz3 := hb3.size
  have gg3 := gtr g2 hb3
  go_wp2_with fail
  have hSo := sort_any g3 k3 w2.heap.size (rowL cs p l) w3 (by rw [HL.out]; omega) (by rw [HL.out]; exact ho3)
  rw [HL.out] at hSo
  ((with_reducible refine hSo.mono ?_); rintro e w4 ⟨rfl, ho4, hb4⟩)
  clear hSo
  have hz4 := hb4.size
  have gg4 : Below w.heap.size w w4 := gg3.trans (hb4.mono (by have := g2.size; omega))
  go_wp2_with fail
  have hsl : (srt (rowL cs p l)).length = l := by rw [srt_len, HL.out]
  have hCo := compact_any g3 k3 w2.heap.size (srt (rowL cs p l)) w4 (by rw [hsl]; omega) (by rw [hsl]; exact ho4)
  rw [hsl, HCP.out] at hCo
  ((with_reducible refine hCo.mono ?_); rintro e w5 ⟨rfl, ho5, hb5⟩)
  clear hCo
  have gg5 : Below w.heap.size w w5 := gg4.trans (hb5.mono (by have := g2.size; omega))
  have HO5 : Hid (Own w5 w.heap.size 3 (.slice (some ⟨g3, 0, none⟩) (putAll (rowL cs p l)).length k3) (ints (putAll (rowL cs p l)))) := ho5.le (by have := g2.size; omega)
  clear ho5 ho4 ho3 ho2 hsl
  go_wp2
  go_ret2
  exact ⟨_, _, rfl, HO5.out, gg5⟩

end Go.Proofs.Ytidfbbegjpfjpaa
