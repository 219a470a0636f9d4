/- rBig; rows of bytes that come in. Conditions: none. -/
import Derived.Test.YtfafnjlembbemaaDoorDrawRep
namespace Go.Proofs.YtfafnjlembbemaaDoor
open Go.RowKit
set_option linter.unusedVariables false

theorem IsRow.rdY {w : World} {a : Option Addr} {len cap : Nat} {zs : List Int} (h : IsRow .u8 w a len cap zs) : RdY w a cap (zs.take len) ∧ (zs.take len).length = len := by
  rcases h with ⟨rfl, rfl, rfl, rfl⟩ | ⟨x, rfl, hl, hm, hz, hc, hw⟩
  · exact ⟨⟨Rd.nil, fun b hb => by simp at hb⟩, rfl⟩
  · have hlen : (zs.take len).length = len := by rw [List.length_take]; omega
    refine ⟨⟨⟨by rw [byts_len]; omega, hm, fun h => by simp at h, fun j hj => ?_⟩, fun b hb => ?_⟩, hlen⟩
    · have h0 := hc 0 (by rw [byts_len] at hj; omega)
      obtain ⟨b, o, spot⟩ := x
      have hsp : spot = none := by simpa [Addr.add] using World.cell?_spot h0
      subst hsp
      have hlt : b < w.heap.size := by
        rcases Nat.lt_or_ge b w.heap.size with h' | h'
        · exact h'
        · simp [Addr.add, World.cell?, Array.getElem?_eq_none h'] at h0
      refine ⟨b, o, rfl, hlt, fun i u hi => ?_⟩
      have hil : i < len := by
        rcases Nat.lt_or_ge i (byts (zs.take len)).length with h' | h'
        · rw [byts_len] at h'; omega
        · rw [List.getElem?_eq_none h'] at hi; cases hi
      have h1 := hc i (by omega)
      have h2 : (⟨b, o, none⟩ : Addr).add i = ⟨b, o + i, none⟩ := by unfold Addr.add; by_cases e : i = 0 <;> simp [e]
      rw [h2] at h1
      rw [h1, ← hi]
      have : i < zs.length := by omega
      simp [byts, List.getElem?_take_of_lt hil, this]
    · have hb' := hw b (List.mem_of_mem_take hb)
      simp [Lit.wf] at hb'
      have e1 : IntKind.u8.min = 0 := by decide
      have e2 : IntKind.u8.max = 255 := by decide
      omega

theorem rBig_any (a : Option Addr) (n cap : Nat) (W : World) (hn : n ≤ 9223372036854775807) :
    Calls Tryd.prog 13 #[.slice a n cap] W fun e w' => e = .returned (.bool (decide (65536 < n))) ∧ W = w' := by
  go_enter Tryd.func13, Tryd.ntmps13
  go_wp2
  go_ret
  exact ⟨ret_bool (by rw [Bool.eq_iff_iff]; simp; try omega), rfl⟩
end Go.Proofs.YtfafnjlembbemaaDoor
