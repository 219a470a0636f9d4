/- rBig and rCut: contracts. Conditions: none. -/
import Derived.Test.YtfafnjlembbemaaDoorDrawRep
import Derived.Test.YtfafnjlembbemaaDoorBytes
import Derived.BigRegion
namespace Go.Proofs.YtfafnjlembbemaaDoor
open Go.RowKit
set_option linter.unusedVariables false

theorem wrap_u8 (x : Int) : 0 ≤ IntKind.u8.wrap x ∧ IntKind.u8.wrap x ≤ 255 := by
  have h1 : IntKind.u8.wrap x = x % 256 := by simp [IntKind.wrap, IntKind.signed, IntKind.bits]
  rw [h1]
  omega
theorem xor_u8 (x y : Int) : 0 ≤ bits .xor .u8 x y ∧ bits .xor .u8 x y ≤ 255 := by
  show 0 ≤ IntKind.u8.wrap _ ∧ IntKind.u8.wrap _ ≤ 255
  exact wrap_u8 _
theorem Own.lit1 (w : World) (E T : TypeId) (u : Value) : Own (w.alloc (.cells #[u] T)) w.heap.size T (.slice (some ⟨w.heap.size, 0, none⟩) 1 1) [u] :=
  World.ownsRow_lit w #[u] 1 (Nat.le_refl _) (by unfold maxLen; omega) rfl
/-- A new row of bytes. -/
def NewY (w : World) (e : Ending) (w' : World) : Prop :=
  ∃ (A : Option Addr) (c : Nat) (bs : List Int), e = .returned (.slice A bs.length c) ∧ RdY w' A c bs ∧ Below w.heap.size w w' ∧ bs.length ≤ 70000

set_option maxHeartbeats 800000 in
theorem rCut_any (A : Option Addr) (c : Nat) (bs : List Int) (w : World) (h : RdY w A c bs) (hl : bs.length ≤ 65536) :
    Calls Tryd.prog 18 #[.slice A bs.length c, .int .i64 1] w (NewY w) := by
  have h1 := h.1.len
  have h2 := h.1.max
  rw [byts_len] at h1
  have hm : ((bs.length : Nat) : Int).tmod 50 = (bs.length : Int) % 50 := Int.tmod_eq_emod_of_nonneg (by omega)
  have hw := wrap_u8 (37 + (bs.length : Int) % 50)
  have hb0 : (0 : Int) ≤ 37 + (bs.length : Int) % 50 ∧ 37 + (bs.length : Int) % 50 ≤ 255 := by omega
  go_enter Tryd.func18, Tryd.ntmps18
  go_wp2
  generalize 37 + (bs.length : Int) % 50 = z0 at *
  have ho0 := Own.lit1 w 5 5 (.int .u8 z0)
  have hbW := bel1 w (.cells #[.int .u8 z0] 5)
  generalize w.alloc (.cells #[.int .u8 z0] 5) = W at *
  go_loopw [5, 6] (fun o i wr => ∃ (k : Nat) (A5 : Option Addr) (c5 : Nat) (xs : List Int), i = .int .i64 k ∧ k ≤ bs.length + 1 ∧ o = .slice A5 xs.length c5 ∧ Hid (xs.length = k) ∧ Own wr w.heap.size 5 (.slice A5 xs.length c5) (byts xs) ∧ Below w.heap.size w wr ∧ (∀ b ∈ xs, 0 ≤ b ∧ b ≤ 255)) (fun _ i _ => bs.length - (intOf i).toNat)
  case atStart => exact ⟨1, _, _, [z0], rfl, by omega, rfl, Lib.hid rfl, ho0, hbW, fun b hb => by simp at hb; subst hb; exact hb0⟩
  case round =>
    clear ho0 hbW hw hm
    obtain ⟨k, A5, c5, xs, rfl, hk, rfl, HL, ho, hb, hx⟩ := hrel
    have hzr := hb.size
    have HX := Lib.hid hx; clear hx
    by_cases hlt : k < bs.length
    · obtain ⟨b, o, rfl, hbB, hc⟩ := ((h.1.below hb (Nat.le_refl _))).at (j := k) (by rw [byts_len]; exact hlt)
      have hck : wr.cell? ⟨b, o + k, none⟩ = some (.int .u8 (gi bs k)) := hc k _ (by simp [byts, gi, hlt])
      have hx1 := xor_u8 (gi bs k) 1
      clear hc
      generalize hv : bits .xor .u8 (gi bs k) 1 = v at *
      go_wp2_with (at_builtin; refine append_one rfl _ _ 28 5 (.int .u8 0) 1 rfl Tryd.underlying28 infoByte rfl (by omega) w.heap.size _ (byts xs) rfl (ho.below (bel1 _ _)) _ (.int .u8 v) rfl (by rw [← hv]; exact (Blk.new _ _ _).cell 0) rfl (by rw [byts_len]; have := HL.out; omega) (by simp; omega) ?_; intro A6 c6 w6 ho6 hb6 hg6)
      have ho7 : Own w6 w.heap.size 5 (.slice A6 (xs ++ [v]).length c6) (byts (xs ++ [v])) := by
        have e1 : byts (xs ++ [v]) = byts xs ++ [.int .u8 v] := by simp [byts]
        have e2 : (xs ++ [v]).length = (byts xs).length + 1 := by simp [byts]
        rw [e1, e2]; exact ho6
      have HO7 := Lib.hid ho7; clear ho7 ho6
      have e3 : Hid ((byts xs).length + 1 = (xs ++ [v]).length) := by show _ = _; simp [byts]
      clear hv
      go_roundw
      case rel => exact ⟨k + 1, A6, c6, xs ++ [v], by go_num, by omega, by rw [e3.out], Lib.hid (by rw [List.length_append, HL.out]; rfl), HO7.out, hb.trans (((Below.refl _ _).alloc (by omega) _).trans hb6), fun b hb => by
        rw [List.mem_append] at hb
        rcases hb with hb | hb
        · exact HX.out b hb
        · simp at hb; subst hb; exact hx1⟩
      case measure => simp [intOf]; omega
    · go_wp2
      go_ret
      exact ⟨A5, c5, xs, rfl, ⟨ho.rd, HX.out⟩, hb, by have := HL.out; omega⟩
end Go.Proofs.YtfafnjlembbemaaDoor
