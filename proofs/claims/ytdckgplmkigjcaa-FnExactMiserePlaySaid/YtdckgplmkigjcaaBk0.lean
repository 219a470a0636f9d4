/- The reference's book of misere values: the plain law of its slots. Conditions: none. -/
import Derived.Test.YtdckgplmkigjcaaMz0
namespace Go.Proofs.Ytdckgplmkigjcaa
open Go.RowKit
set_option linter.unusedVariables false

/-- The number of a position in the book. -/
def ky (p : List Int) : Int := (kf p 20 : Nat)
theorem ky_pos (p : List Int) : 0 ≤ ky p := Int.natCast_nonneg _
theorem ky_lt {p : List Int} (h : Hp 20 p) : ky p < 16094453760 := by
  have := kf_lt h 20
  rw [kR20] at this
  unfold ky
  omega
/-- The place that the search for a key comes to after d steps. -/
def plc (k : Int) (d : Nat) : Nat := (k.toNat % 8191 + d) % 8192
theorem plc_lt (k : Int) (d : Nat) : plc k d < 8192 := Nat.mod_lt _ (by omega)
theorem plc_succ (k : Int) (d : Nat) : plc k (d + 1) = (plc k d + 1) % 8192 := by unfold plc; omega
theorem plc_to (k : Int) (i : Nat) (h : i < 8192) : ∃ d, d < 8192 ∧ plc k d = i := by
  refine ⟨(i + 8192 - k.toNat % 8191) % 8192, Nat.mod_lt _ (by omega), ?_⟩
  unfold plc
  have := Nat.mod_lt k.toNat (show 0 < 8191 by omega)
  omega
/-- The book's keys and values are right. -/
def BkOk (cs ks vs : List Int) : Prop := ks.length = 8192 ∧ vs.length = 8192 ∧
  (∀ i, i < 8192 → gi ks i = -1 ∨ ∃ p, Hp 20 p ∧ gi ks i = ky p ∧ gi vs i = (mz cs p : Nat)) ∧
  (∀ i j, i < 8192 → j < 8192 → gi ks i = gi ks j → gi ks i ≠ -1 → i = j) ∧
  (∀ i, i < 8192 → gi ks i ≠ -1 → ∃ d, d < 8192 ∧ plc (gi ks i) d = i ∧ ∀ t, t < d → gi ks (plc (gi ks i) t) ≠ -1)
theorem gi_set (xs : List Int) (i j : Nat) (u : Int) (h : i < xs.length) : gi (xs.set i u) j = if j = i then u else gi xs j := by
  unfold gi
  rw [List.getD_eq_getElem?_getD, List.getElem?_set, List.getD_eq_getElem?_getD]
  by_cases e : i = j
  · subst e; simp [h]
  · rw [if_neg e, if_neg (Ne.symm e)]
theorem BkOk.new (cs : List Int) : BkOk cs (List.replicate 8192 (-1)) (List.replicate 8192 0) := by
  have e : ∀ i, i < 8192 → gi (List.replicate 8192 (-1 : Int)) i = -1 := fun i h => by
    unfold gi
    rw [List.getD_eq_getElem?_getD, List.getElem?_replicate, if_pos h]; rfl
  exact ⟨List.length_replicate, List.length_replicate, fun i h => .inl (e i h), fun i j hi _ _ h => absurd (e i hi) h, fun i hi h => absurd (e i hi) h⟩
theorem BkOk.free {cs ks vs : List Int} (h : BkOk cs ks vs) : ∃ i, i < 8192 ∧ gi ks i = -1 := by
  obtain ⟨h1, h2, h3, h4, h5⟩ := h
  apply Classical.byContradiction
  intro hn
  have hne : ∀ i, i < 8192 → gi ks i ≠ -1 := fun i hi e => hn ⟨i, hi, e⟩
  have hnd : ks.Nodup := by
    unfold List.Nodup
    rw [List.pairwise_iff_getElem]
    intro i j hi hj hij e
    have ei : gi ks i = ks[i] := by simp [gi, hi]
    have ej : gi ks j = ks[j] := by simp [gi, hj]
    have := h4 i j (by omega) (by omega) (by rw [ei, ej, e]) (hne i (by omega))
    omega
  have hm : ∀ x ∈ ks, x ∈ (parts 20 1 20).map ky := fun x hx => by
    obtain ⟨i, hi, rfl⟩ := List.getElem_of_mem hx
    have ei : gi ks i = ks[i] := by simp [gi, hi]
    rcases h3 i (by omega) with e | ⟨p, hp, e, _⟩
    · exact absurd e (hne i (by omega))
    · rw [← ei, e]
      exact List.mem_map.2 ⟨p, hp_parts hp, rfl⟩
  have := nodup_le ks _ hnd hm
  rw [List.length_map, parts_len, cnt20, h1] at this
  omega
/-- Where the search for a key ends. -/
def SlotAt (ks : List Int) (k : Int) (i : Nat) : Prop := (gi ks i = -1 ∨ gi ks i = k) ∧ ∃ d, d < 8192 ∧ plc k d = i ∧ ∀ t, t < d → gi ks (plc k t) ≠ -1 ∧ gi ks (plc k t) ≠ k
theorem SlotAt.lt {ks : List Int} {k : Int} {i : Nat} (h : SlotAt ks k i) : i < 8192 := by
  obtain ⟨_, d, _, rfl, _⟩ := h
  exact plc_lt _ _
theorem slot_hit {cs ks vs p : List Int} {i : Nat} (h : BkOk cs ks vs) (hp : Hp 20 p) (hi : i < 8192) (hk : gi ks i = ky p) : gi vs i = (mz cs p : Nat) := by
  rcases h.2.2.1 i hi with e | ⟨q, hq, e1, e2⟩
  · have := ky_pos p; omega
  · have : ky q = ky p := by rw [← e1, hk]
    have : q = p := key_inj hq hp (by unfold ky at this; omega)
    rw [e2, this]
theorem slot_put {cs ks vs p : List Int} {i : Nat} (h : BkOk cs ks vs) (hp : Hp 20 p) (hs : SlotAt ks (ky p) i) : BkOk cs (ks.set i (ky p)) (vs.set i (mz cs p : Nat)) := by
  obtain ⟨h1, h2, h3, h4, h5⟩ := h
  have hi := hs.lt
  obtain ⟨s1, d, sd, sp, st⟩ := hs
  have hk0 := ky_pos p
  have g1 : ∀ j, gi (ks.set i (ky p)) j = if j = i then ky p else gi ks j := fun j => gi_set ks i j _ (by omega)
  have g2 : ∀ j, gi (vs.set i ((mz cs p : Nat) : Int)) j = if j = i then ((mz cs p : Nat) : Int) else gi vs j := fun j => gi_set vs i j _ (by omega)
  have hfar : ∀ j, j < 8192 → j ≠ i → gi ks j ≠ ky p := fun j hj hji e => by
    rcases s1 with s1 | s1
    · obtain ⟨d2, k1, k2, k3⟩ := h5 j hj (by omega)
      rw [e] at k2 k3
      rcases Nat.lt_trichotomy d2 d with hlt | he | hlt
      · exact (st d2 hlt).2 (by rw [k2]; exact e)
      · rw [he, sp] at k2; exact hji k2.symm
      · exact k3 d hlt (by rw [sp]; exact s1)
    · exact hji (h4 j i hj hi (by rw [e, s1]) (by omega))
  refine ⟨by rw [List.length_set, h1], by rw [List.length_set, h2], fun j hj => ?_, fun j k hj hk => ?_, fun j hj => ?_⟩
  · rw [g1, g2]
    by_cases e : j = i
    · rw [if_pos e, if_pos e]
      exact .inr ⟨p, hp, rfl, rfl⟩
    · rw [if_neg e, if_neg e]
      exact h3 j hj
  · rw [g1, g1]
    by_cases e : j = i
    · by_cases e' : k = i
      · intro _ _; rw [e, e']
      · rw [if_pos e, if_neg e']
        intro he
        exact absurd he.symm (hfar k hk e')
    · by_cases e' : k = i
      · rw [if_neg e, if_pos e']
        intro he
        exact absurd he (hfar j hj e)
      · rw [if_neg e, if_neg e']
        exact h4 j k hj hk
  · rw [g1 j]
    have hkeep : ∀ x, gi ks x ≠ -1 → gi (ks.set i (ky p)) x ≠ -1 := fun x hx => by
      rw [g1]
      split
      · omega
      · exact hx
    by_cases e : j = i
    · rw [if_pos e]
      intro _
      exact ⟨d, sd, by rw [e]; exact sp, fun t ht => hkeep _ (st t ht).1⟩
    · rw [if_neg e]
      intro hne
      obtain ⟨d2, k1, k2, k3⟩ := h5 j hj hne
      exact ⟨d2, k1, k2, fun t ht => hkeep _ (k3 t ht)⟩
end Go.Proofs.Ytdckgplmkigjcaa
