/- sortedHeaps by its contract. Conditions: none. -/
import Derived.Test.YtdckgplmkigjcaaCompF
namespace Go.Proofs.Ytdckgplmkigjcaa
open Go.RowKit
set_option linter.unusedVariables false

theorem FrP.rdx {w : World} {lo g : Nat} {L : List (Value × List Int)} (h : FrP w lo L) (hg : ∀ x ∈ L, x.1.ownBlock ≠ some g) : ∀ x ∈ L, RdX w g x.1 x.2 := by
  intro x hx
  obtain ⟨⟨A, c, e⟩, ho⟩ := h.1 x hx
  refine ⟨A, c, e, ?_, fun a ha hb => ?_⟩
  · rw [e] at ho; exact ho.rd
  · refine hg x hx ?_
    rw [e, ha]
    show some a.block = _
    rw [hb]
theorem FrP.grown {w w' : World} {lo g : Nat} {L : List (Value × List Int)} (h : FrP w lo L) (hg : w.grownBy w' (some g)) (hne : ∀ x ∈ L, x.1.ownBlock ≠ some g) : FrP w' lo L :=
  h.keep fun x hx ho => ho.grown hg (.inr (hne x hx))
theorem kp_subP {L M : List (Value × List Int)} (hM : M.Perm L) : SubP (kp M M.length) L :=
  ⟨M, hM, by have := kp_sub M M.length (Nat.le_refl _); rwa [List.take_length] at this⟩

set_option maxHeartbeats 800000 in
theorem sortedHeaps_any (g cap lo : Nat) (L : List (Value × List Int)) (w : World) (hn : L.length ≤ 1000000) (ho : Own w lo 22 (.slice (some ⟨g, 0, none⟩) L.length cap) (L.map (·.1))) (hP : FrP w lo L) (hg : ∀ x ∈ L, x.1.ownBlock ≠ some g) :
    Calls Try.prog 99 #[.slice (some ⟨g, 0, none⟩) L.length cap] w fun e w' => ∃ L' : List (Value × List Int), e = .returned (.slice (some ⟨g, 0, none⟩) L'.length cap) ∧
      Own w' lo 22 (.slice (some ⟨g, 0, none⟩) L'.length cap) (L'.map (·.1)) ∧ FrP w' lo L' ∧ (∀ x ∈ L', x.1.ownBlock ≠ some g) ∧ Sorted (L'.map (·.2)) ∧ (∀ xs, xs ∈ L'.map (·.2) ↔ xs ∈ L.map (·.2)) ∧ L'.length ≤ L.length ∧ w.grownBy w' (some g) := by
  have hS := sortRows_any g cap lo L w (hP.rdx hg) hn ho
  have HS := Lib.hid hS
  have HP := Lib.hid hP; have HG := Lib.hid hg; have HN := Lib.hid hn
  clear hS ho hP hg hn
  go_enter Try.func99, Try.ntmps99
  go_wp2_with fail
  ((with_reducible refine (HS.out).mono ?_); rintro e w1 ⟨rfl, M, hM, hs, ho1, hg1⟩)
  have hsub : SubP M L := ⟨M, hM, List.Sublist.refl _⟩
  have hP1 := (HP.out.sub hsub).grown hg1 fun x hx => HG.out x (hsub.mem hx)
  have hl : M.length = L.length := hM.length_eq
  have hC := compactRows_any g cap lo M w1 (hP1.rdx fun x hx => HG.out x (hsub.mem hx)) (by have := HN.out; omega) (by rw [hl]; exact ho1)
  rw [hl] at hC
  rw [← hl] at hC
  have HC := Lib.hid hC
  have HM := Lib.hid hM; have HSo := Lib.hid hs; have HP1 := Lib.hid hP1; have HG1 := Lib.hid hg1; have HL := Lib.hid hl
  rw [hl] at HC
  clear hC hM hs hP1 hg1 hl hsub ho1
  go_wp2_with fail
  ((with_reducible refine (HC.out).mono ?_); rintro e w2 ⟨rfl, ho2, hg2⟩)
  rw [← HL.out] at ho2 ⊢
  have hsub := kp_subP HM.out
  have HO2 := Lib.hid ho2; have HG2 := Lib.hid hg2; have HSub := Lib.hid hsub
  clear ho2 hg2 hsub
  go_wp2
  go_ret
  refine ⟨kp M M.length, rfl, HO2.out, ?_, fun x hx => HG.out x (HSub.out.mem hx), kp_ris M HSo.out M.length (Nat.le_refl _), fun xs => ?_, HSub.out.len, HG1.out.trans HG2.out⟩
  · refine FrP.grown ?_ HG2.out fun x hx => HG.out x (HSub.out.mem hx)
    exact HP1.out.sub ⟨M, List.Perm.refl _, by have := kp_sub M M.length (Nat.le_refl _); rwa [List.take_length] at this⟩
  · rw [kp_mem M M.length (Nat.le_refl _), List.take_length]
    exact (HM.out.map (·.2)).mem_iff
end Go.Proofs.Ytdckgplmkigjcaa
