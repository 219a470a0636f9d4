/- FarValue of the program and of the reference by contracts. Conditions: none. -/
import Derived.Test.YtidfbbegjpfjpaaProved
namespace Go.Proofs.Ytidfbbegjpfjpaa
open Go.RowKit
set_option linter.unusedVariables false

noncomputable def val (cs : List Int) (i : Nat) : Nat := gn (V cs (i + 1)) i
theorem val_at (cs : List Int) {i n : Nat} (h : i < n) : gn (V cs n) i = val cs i := V_gn cs h (by omega)
/-- The heap within that is like heap n. -/
def farIdx (p l n : Int) : Int := if p + l ≤ n then p + (n - p) % l else n
noncomputable def farOk (cs : List Int) (p l n : Int) : Bool := provedB cs p l && inB n 0 1000000000
noncomputable def farV (cs : List Int) (p l n : Int) : Int := if farOk cs p l n = true then (val cs (farIdx p l n).toNat : Nat) else 0
theorem proved_facts {cs : List Int} {p l : Int} (h : provedB cs p l = true) : goodCode cs ∧ 0 ≤ p ∧ 1 ≤ l ∧ p + l ≤ 150 ∧ ∀ k : Nat, (k : Int) < p + l → small255 (V cs (k + 1)) := by
  rw [provedB, decide_eq_true_eq] at h
  obtain ⟨h1, h2, h3, -⟩ := h
  obtain ⟨hg, hp, hn⟩ := needs_pos h1
  have hp' : 0 ≤ p ∧ p ≤ 300 ∧ 1 ≤ l ∧ l ≤ 300 := by simpa [goodPerB] using hp
  refine ⟨hg, hp'.1, hp'.2.2.1, by omega, fun k hk => small255_mono h3 (by omega)⟩
theorem farIdx_lt {p l n : Int} (hl : 1 ≤ l) (hp : 0 ≤ p) (hn : 0 ≤ n) : 0 ≤ farIdx p l n ∧ farIdx p l n < p + l := by
  unfold farIdx
  split
  · have h1 := Int.emod_nonneg (n - p) (show l ≠ 0 by omega)
    have h2 := Int.emod_lt_of_pos (n - p) (show 0 < l by omega)
    omega
  · omega

set_option maxHeartbeats 400000 in
theorem farI_any (A : Option Addr) (c : Nat) (cs : List Int) (p l n : Int) (w : World) (B : Nat) (hB : B ≤ w.heap.size) (h : RdI w B A c cs) :
    Calls Try.prog 14 #[.slice A cs.length c, .agg #[.int .i64 p, .int .i64 l], .int .i64 n] w fun e w' => e = .returned (.tuple #[.int .i64 (farV cs p l n), .bool (farOk cs p l n)]) ∧ Below w.heap.size w w' := by
  by_cases hn : 0 ≤ n ∧ n ≤ 1000000000
  · have hin : inB n 0 1000000000 = true := by simp [inB]; omega
    have hok : farOk cs p l n = provedB cs p l := by simp [farOk, hin]
    have hv : farV cs p l n = if provedB cs p l = true then ((val cs (farIdx p l n).toNat : Nat) : Int) else 0 := by unfold farV; rw [hok]
    rw [hok, hv]
    clear hok hin hv
    obtain ⟨hn1, hn2⟩ := hn
    have hpf := @proved_facts cs p l
    have HP := Lib.hid hpf; clear hpf
    have hpc := provedI_any A c cs p l
    cases hpr : provedB cs p l
    · rw [if_neg (by decide)]
      rw [hpr] at hpc
      clear HP
      go_enter Try.func14, Try.ntmps14
      go_wp2_with fail
      refine (hpc _ B (by simp; omega) (h.below ((Below.refl _ _).alloc (Nat.le_refl _) _) hB)).mono ?_; rintro e w1 ⟨rfl, hb1⟩
      go_wp2
      refine bodyPost_ret (v := .tuple #[.int .i64 0, .bool false]) (by simp [results, Try.results14, go_sem]) rfl ⟨rfl, ((Below.refl _ _).alloc (Nat.le_refl _) _).trans (hb1.mono (by simp))⟩
    · rw [if_pos rfl]
      rw [hpr] at hpc
      obtain ⟨hg, hp, hl, hpl, hs⟩ := HP.out hpr
      have HG := Lib.hid hg; have HS := Lib.hid hs; clear hg hs
      have hidx := farIdx_lt hl hp hn1
      have hI : farIdx p l n = if p + l ≤ n then p + (n - p) % l else n := rfl
      have HI := Lib.hid hI; clear hI
      generalize farIdx p l n = I at *
      obtain ⟨k, rfl⟩ : ∃ k : Nat, I = k := ⟨I.toNat, by omega⟩
      have hk2 : k ≤ 300 := by omega
      have hVs := HS.out k hidx.2
      have HV2 : Hid (gn (V cs (k + 1)) k = val cs k) := rfl
      have HL : Hid ((V cs (k + 1)).length = k + 1) := V_len _ _
      have hcall := valuesI_any A c cs k
      have hback : ((k : Int)).toNat = k := by omega
      rw [hback]
      go_enter Try.func14, Try.ntmps14
      go_wp2_with fail
      have hzW : w.heap.size < (w.alloc (.cells #[.int .i64 p, .int .i64 l] 39)).heap.size := by simp
      have hAW : Below w.heap.size w (w.alloc (.cells #[.int .i64 p, .int .i64 l] 39)) := (Below.refl _ _).alloc (Nat.le_refl _) _
      have c0W : (w.alloc (.cells #[.int .i64 p, .int .i64 l] 39)).cell? ⟨w.heap.size, 0, none⟩ = some (.int .i64 p) := by simp [go_sem]
      have c1W : (w.alloc (.cells #[.int .i64 p, .int .i64 l] 39)).cell? ⟨w.heap.size, 1, none⟩ = some (.int .i64 l) := by simp [go_sem]
      generalize w.alloc (.cells #[.int .i64 p, .int .i64 l] 39) = W at *
      have hzw := hAW.size
      refine (hpc _ _ (by omega) (h.below hAW hB)).mono ?_; rintro e w1 ⟨rfl, hb1⟩
      have hz1 := hb1.size
      have q0 := (hb1.cell (p := ⟨w.heap.size, 0, none⟩) hzW).trans c0W
      have q1 := (hb1.cell (p := ⟨w.heap.size, 1, none⟩) hzW).trans c1W
      have hb1' := hAW.trans (hb1.mono (by omega))
      clear hb1 c0W c1W hAW
      by_cases hfar : p + l ≤ n
      · have e1 := HI.out
        rw [if_pos hfar] at e1
        go_wp2_with fail
        go_quiet (fail)
        rw [← e1]
        clear e1
        go_wp2_with fail
        have hbq := bdrew hb1' nq
        refine (hcall _ _ (Nat.le_refl _) ((h.below hbq hB).more (Nat.le_trans hB hbq.size)) hk2 HG.out).mono ?_
        rintro e w2 ⟨⟨hs, A2, c2, rfl, ho⟩ | ⟨hs, rfl⟩, hb2⟩
        · obtain ⟨b, o, rfl, hbB, hc⟩ := (ho.rd (by rw [nats_len, HL.out])).at (j := k) (by rw [nats_len, HL.out]; omega)
          have hck := hc k (by rw [nats_len, HL.out]; omega)
          rw [gi_nats, HV2.out] at hck
          clear hc hs ho hVs
          go_wp2
          refine bodyPost_ret (v := .tuple #[.int .i64 (val cs k : Nat), .bool true]) (by simp [results, Try.results14, go_sem]) rfl ⟨rfl, hbq.trans (hb2.mono hbq.size)⟩
        · exact absurd hVs hs
      · have e1 := HI.out
        rw [if_neg hfar] at e1
        subst e1
        go_wp2_with fail
        refine (hcall _ _ (Nat.le_refl _) ((h.below hb1' hB).more (Nat.le_trans hB hb1'.size)) hk2 HG.out).mono ?_
        rintro e w2 ⟨⟨hs, A2, c2, rfl, ho⟩ | ⟨hs, rfl⟩, hb2⟩
        · obtain ⟨b, o, rfl, hbB, hc⟩ := (ho.rd (by rw [nats_len, HL.out])).at (j := k) (by rw [nats_len, HL.out]; omega)
          have hck := hc k (by rw [nats_len, HL.out]; omega)
          rw [gi_nats, HV2.out] at hck
          clear hc hs ho hVs
          go_wp2
          refine bodyPost_ret (v := .tuple #[.int .i64 (val cs k : Nat), .bool true]) (by simp [results, Try.results14, go_sem]) rfl ⟨rfl, hb1'.trans (hb2.mono hb1'.size)⟩
        · exact absurd hVs hs
  · have hin : inB n 0 1000000000 = false := by simp [inB]; omega
    have hok : farOk cs p l n = false := by simp [farOk, hin]
    have hv : farV cs p l n = 0 := by simp [farV, hok]
    rw [hok, hv]
    clear hok hv hin
    by_cases hneg : n < 0
    all_goals
      first
        | (have hm3 : (1000000000 : Int) < n := by omega)
        | skip
      clear hn
      go_enter Try.func14, Try.ntmps14
      go_wp2
      refine bodyPost_ret (v := .tuple #[.int .i64 0, .bool false]) (by simp [results, Try.results14, go_sem]) rfl ⟨rfl, (Below.refl _ _).alloc (Nat.le_refl _) _⟩

set_option maxHeartbeats 400000 in
theorem farS_any (A : Option Addr) (c : Nat) (cs : List Int) (p l n : Int) (w : World) (B : Nat) (hB : B ≤ w.heap.size) (h : RdI w B A c cs) :
    Calls Try.prog 15 #[.slice A cs.length c, .agg #[.int .i64 p, .int .i64 l], .int .i64 n] w fun e w' => e = .returned (.tuple #[.int .i64 (farV cs p l n), .bool (farOk cs p l n)]) ∧ Below w.heap.size w w' := by
  by_cases hn : 0 ≤ n ∧ n ≤ 1000000000
  · have hin : inB n 0 1000000000 = true := by simp [inB]; omega
    have hok : farOk cs p l n = provedB cs p l := by simp [farOk, hin]
    have hv : farV cs p l n = if provedB cs p l = true then ((val cs (farIdx p l n).toNat : Nat) : Int) else 0 := by unfold farV; rw [hok]
    rw [hok, hv]
    clear hok hv
    obtain ⟨hn1, hn2⟩ := hn
    have hpf := @proved_facts cs p l
    have HP := Lib.hid hpf; clear hpf
    have hpc := provedS_any A c cs p l
    cases hpr : provedB cs p l
    · rw [if_neg (by decide)]
      rw [hpr] at hpc
      clear HP
      go_enter Try.func15, Try.ntmps15
      go_wp2_with fail
      refine (hpc _ B (by simp; omega) (h.below ((Below.refl _ _).alloc (Nat.le_refl _) _) hB)).mono ?_; rintro e w1 ⟨rfl, hb1⟩
      go_wp2
      refine bodyPost_ret (v := .tuple #[.int .i64 0, .bool false]) (by simp [results, Try.results15, go_sem]) rfl ⟨rfl, ((Below.refl _ _).alloc (Nat.le_refl _) _).trans (hb1.mono (by simp))⟩
    · rw [if_pos rfl]
      rw [hpr] at hpc
      obtain ⟨hg, hp, hl, hpl, hs⟩ := HP.out hpr
      have HG := Lib.hid hg; have HS := Lib.hid hs; clear hg hs
      have hidx := farIdx_lt hl hp hn1
      have hI : farIdx p l n = if p + l ≤ n then p + (n - p) % l else n := rfl
      have HI := Lib.hid hI; clear hI
      generalize farIdx p l n = I at *
      obtain ⟨k, rfl⟩ : ∃ k : Nat, I = k := ⟨I.toNat, by omega⟩
      have hk2 : k ≤ 300 := by omega
      have hVs := HS.out k hidx.2
      have HV2 : Hid (gn (V cs (k + 1)) k = val cs k) := rfl
      have HL : Hid ((V cs (k + 1)).length = k + 1) := V_len _ _
      have hcall := valuesS_any A c cs k
      have hback : ((k : Int)).toNat = k := by omega
      rw [hback]
      go_enter Try.func15, Try.ntmps15
      go_wp2_with fail
      have hzW : w.heap.size < (w.alloc (.cells #[.int .i64 p, .int .i64 l] 39)).heap.size := by simp
      have hAW : Below w.heap.size w (w.alloc (.cells #[.int .i64 p, .int .i64 l] 39)) := (Below.refl _ _).alloc (Nat.le_refl _) _
      have c0W : (w.alloc (.cells #[.int .i64 p, .int .i64 l] 39)).cell? ⟨w.heap.size, 0, none⟩ = some (.int .i64 p) := by simp [go_sem]
      have c1W : (w.alloc (.cells #[.int .i64 p, .int .i64 l] 39)).cell? ⟨w.heap.size, 1, none⟩ = some (.int .i64 l) := by simp [go_sem]
      generalize w.alloc (.cells #[.int .i64 p, .int .i64 l] 39) = W at *
      have hzw := hAW.size
      refine (hpc _ _ (by omega) (h.below hAW hB)).mono ?_; rintro e w1 ⟨rfl, hb1⟩
      have hz1 := hb1.size
      have q0 := (hb1.cell (p := ⟨w.heap.size, 0, none⟩) hzW).trans c0W
      have q1 := (hb1.cell (p := ⟨w.heap.size, 1, none⟩) hzW).trans c1W
      have hb1' := hAW.trans (hb1.mono (by omega))
      clear hb1 c0W c1W hAW
      by_cases hfar : p + l ≤ n
      · have e1 := HI.out
        rw [if_pos hfar] at e1
        go_wp2_with (go_at_call 37; refine (l1In_any _ _ _ _).mono ?_; rintro e w' ⟨rfl, rfl⟩)
        go_quiet (fail)
        rw [← e1]
        clear e1
        go_wp2_with fail
        have hbq := bdrew hb1' nq
        refine (hcall _ _ (Nat.le_refl _) ((h.below hbq hB).more (Nat.le_trans hB hbq.size)) hk2 HG.out).mono ?_
        rintro e w2 ⟨⟨A2, c2, rfl, ho, hb2⟩, hs15⟩; clear hs15; rw [nats_len, HL.out] at ho ⊢
        · obtain ⟨b, o, rfl, hbB, hc⟩ := (ho.rd (by rw [nats_len, HL.out])).at (j := k) (by rw [nats_len, HL.out]; omega)
          have hck := hc k (by rw [nats_len, HL.out]; omega)
          rw [gi_nats, HV2.out] at hck
          clear hc ho hVs
          go_wp2
          refine bodyPost_ret (v := .tuple #[.int .i64 (val cs k : Nat), .bool true]) (by simp [results, Try.results15, go_sem]) rfl ⟨rfl, hbq.trans (hb2.mono hbq.size)⟩
      · have e1 := HI.out
        rw [if_neg hfar] at e1
        subst e1
        go_wp2_with (go_at_call 37; refine (l1In_any _ _ _ _).mono ?_; rintro e w' ⟨rfl, rfl⟩)
        refine (hcall _ _ (Nat.le_refl _) ((h.below hb1' hB).more (Nat.le_trans hB hb1'.size)) hk2 HG.out).mono ?_
        rintro e w2 ⟨⟨A2, c2, rfl, ho, hb2⟩, hs15⟩; clear hs15; rw [nats_len, HL.out] at ho ⊢
        · obtain ⟨b, o, rfl, hbB, hc⟩ := (ho.rd (by rw [nats_len, HL.out])).at (j := k) (by rw [nats_len, HL.out]; omega)
          have hck := hc k (by rw [nats_len, HL.out]; omega)
          rw [gi_nats, HV2.out] at hck
          clear hc ho hVs
          go_wp2
          refine bodyPost_ret (v := .tuple #[.int .i64 (val cs k : Nat), .bool true]) (by simp [results, Try.results15, go_sem]) rfl ⟨rfl, hb1'.trans (hb2.mono hb1'.size)⟩
  · have hin : inB n 0 1000000000 = false := by simp [inB]; omega
    have hok : farOk cs p l n = false := by simp [farOk, hin]
    have hv : farV cs p l n = 0 := by simp [farV, hok]
    rw [hok, hv]
    clear hok hv hn
    have hpc := provedS_any A c cs p l
    generalize provedB cs p l = R at *
    cases R
    all_goals
      go_enter Try.func15, Try.ntmps15
      go_wp2_with fail
      refine (hpc _ B (by simp; omega) (h.below ((Below.refl _ _).alloc (Nat.le_refl _) _) hB)).mono ?_; rintro e w1 ⟨rfl, hb1⟩
      go_wp2_with (go_at_call 37; refine (l1In_any _ _ _ _).mono ?_; rintro e w' ⟨rfl, rfl⟩)
      refine bodyPost_ret (v := .tuple #[.int .i64 0, .bool false]) (by simp [results, Try.results15, go_sem]) rfl ⟨rfl, ((Below.refl _ _).alloc (Nat.le_refl _) _).trans (hb1.mono (by simp))⟩
end Go.Proofs.Ytidfbbegjpfjpaa
