/- Rows of bools as a board: the reference's l21Board, by contract. Conditions: none. -/
import Derived.Test.YtpepkpikeggceaaDoorCells
namespace Go.Proofs.YtpepkpikeggceaaDoor
open Go.RowKit
set_option linter.unusedVariables false

/-- Slice A of capacity c reads as rows of bools. -/
def RdB (w : World) (B : Nat) (A : Option Addr) (c : Nat) (bss : List (List Bool)) : Prop :=
  ∃ cs, Rd w B A c cs ∧ cs.length = bss.length ∧ ∀ i, i < bss.length → ∃ Ai ci, cs[i]? = some (.slice Ai (gb bss i).length ci) ∧ Rd w B Ai ci (bools (gb bss i))
theorem RwB.rd {w : World} {lo : Nat} {A : Option Addr} {n c : Nat} {bss : List (List Bool)} (h : RwB w lo (.slice A n c) bss) : RdB w w.heap.size A c bss := by
  obtain ⟨cs, h1, h2, h3⟩ := h
  exact ⟨cs, h1.rd, h2, fun i hi => by obtain ⟨Ai, ci, k1, k2, _⟩ := h3 i hi; exact ⟨Ai, ci, k1, k2⟩⟩
theorem RdB.below {w w' : World} {B B' c : Nat} {A : Option Addr} {bss : List (List Bool)} (h : RdB w B A c bss) (hb : Below B' w w') (hB : B ≤ B') : RdB w' B A c bss := by
  obtain ⟨cs, h1, h2, h3⟩ := h
  exact ⟨cs, h1.below hb hB, h2, fun i hi => by obtain ⟨Ai, ci, k1, k2⟩ := h3 i hi; exact ⟨Ai, ci, k1, k2.below hb hB⟩⟩
theorem RdB.len {w : World} {B c : Nat} {A : Option Addr} {bss : List (List Bool)} (h : RdB w B A c bss) : bss.length ≤ c ∧ c ≤ 9223372036854775807 := by
  obtain ⟨cs, h1, h2, _⟩ := h
  have := h1.len
  exact ⟨by omega, h1.max⟩
theorem RdB.at {w : World} {B c : Nat} {A : Option Addr} {bss : List (List Bool)} (h : RdB w B A c bss) {j : Nat} (hj : j < bss.length) :
    ∃ b o, A = some ⟨b, o, none⟩ ∧ b < B ∧ ∀ i, i < bss.length → ∃ Ai ci, w.cell? ⟨b, o + i, none⟩ = some (.slice Ai (gb bss i).length ci) ∧ Rd w B Ai ci (bools (gb bss i)) := by
  obtain ⟨cs, h1, h2, h3⟩ := h
  obtain ⟨b, o, hA, hb, hc⟩ := h1.at (j := j) (by omega)
  refine ⟨b, o, hA, hb, fun i hi => ?_⟩
  obtain ⟨Ai, ci, k1, k2⟩ := h3 i hi
  exact ⟨Ai, ci, hc i _ k1, k2⟩
/-- The byte of a mark. -/
def bmark (b : Bool) : UInt8 := if b = true then 46 else 35
def btext (bs : List Bool) : ByteArray := str (bs.map bmark)
theorem gbit {bs : List Bool} {j : Nat} (h : j < bs.length) : bs.getD j false = bs[j] := by simp [h]

set_option maxHeartbeats 1600000 in
theorem board_any (A : Option Addr) (c : Nat) (bss : List (List Bool)) (w : World) (B : Nat) (hB : B ≤ w.heap.size) (h : RdB w B A c bss) (hn : bss.length ≤ 1000000) (hm : Hid (∀ i, i < bss.length → (gb bss i).length ≤ 1000000)) :
    Calls Tryd.prog 50 #[.slice A bss.length c] w (RetBd w (bss.map btext)) := by
  obtain ⟨h1, h2⟩ := h.len
  go_enter Tryd.func50, Tryd.ntmps50
  go_wp2
  obtain ⟨W, hW⟩ : ∃ W, W = (w.alloc (.cells #[.slice none 0 0] 45)).alloc (.cells #[.slice none 0 0] 45) := ⟨_, rfl⟩
  have e0 : Blk W w.heap.size 45 #[.slice none 0 0] := by rw [hW]; exact (Blk.new w _ _).alloc _
  have e1 : Blk W (w.heap.size + 1) 45 #[.slice none 0 0] := by rw [hW]; exact Blk.new_at (w.alloc _) _ _ (by simp)
  have hAW : Below w.heap.size w W := by rw [hW]; exact bel2 _ _ _
  have hzW : w.heap.size + 2 ≤ W.heap.size := by rw [hW]; simp
  first | rw [← hW] | skip
  clear hW
  go_loopw [4, 5, 6] (fun i x y wr => ∃ (k : Nat) (A' : Option Addr) (c' : Nat), i = .int .i64 k ∧ k ≤ bss.length ∧ Blk wr (w.heap.size + 1) 45 #[.slice A' k c'] ∧ Blk wr w.heap.size 45 #[.slice none 0 0] ∧ Own wr (w.heap.size + 2) 9 (.slice A' k c') (scells ((bss.take k).map btext)) ∧ Below w.heap.size w wr ∧ w.heap.size + 2 ≤ wr.heap.size) (fun i _ _ _ => bss.length - (intOf i).toNat)
  case atStart => exact ⟨0, none, 0, rfl, by omega, e1, e0, ⟨rfl, .inl ⟨rfl, rfl⟩⟩, hAW, hzW⟩
  case round =>
    clear e0 e1 hAW hzW
    obtain ⟨k, A', c', rfl, hk, e1, e0, ho, hb, hzr⟩ := hrel
    have q10 : wr.cell? ⟨w.heap.size + 1, 0, none⟩ = some (.slice A' k c') := e1.cell 0
    have hr := h.below hb hB
    by_cases hlt : k < bss.length
    · obtain ⟨b, o, rfl, hbB, hc⟩ := hr.at (j := k) hlt
      obtain ⟨Ak, ck, qk, rk⟩ := hc k hlt
      have hmk := hm.out k hlt
      have hlk := rk.len
      have hmx := rk.max
      rw [bools_len] at hlk
      clear hc
      have HO := Lib.hid ho; clear ho
      go_wp2
      go_loop [5, 6] (fun v y => ∃ (j : Nat) (x : ByteArray), y = .int .i64 j ∧ j ≤ (gb bss k).length ∧ v = .string x ∧ x.data.toList = ((gb bss k).take j).map bmark) (fun _ y => (gb bss k).length - (intOf y).toNat)
      case atStart => exact ⟨0, _, rfl, by omega, rfl, rfl⟩
      case round =>
        obtain ⟨j, x, rfl, hj, rfl, hx⟩ := hrel
        have hxz : x.size ≤ 1000000 := by rw [← data_len, hx, List.length_map, List.length_take]; omega
        have HX := Lib.hid hx; clear hx
        by_cases hjl : j < (gb bss k).length
        · obtain ⟨b2, o2, rfl, hb2, hc2⟩ := rk.at (j := j) (by rw [bools_len]; exact hjl)
          have q2 := hc2 j _ (bools_at _ j hjl)
          clear hc2
          have HT : Hid (((gb bss k).take (j + 1)).map bmark = ((gb bss k).take j).map bmark ++ [bmark ((gb bss k).getD j false)]) := by
            show _ = _
            rw [List.take_succ_eq_append_getElem hjl, List.map_append, gbit hjl]; rfl
          cases hbit : (gb bss k).getD j false
          · rw [hbit] at q2 HT
            obtain ⟨x', hx'⟩ : ∃ x', x' = x ++ (⟨#[35]⟩ : ByteArray) := ⟨_, rfl⟩
            have HX' : Hid (x'.data.toList = ((gb bss k).take (j + 1)).map bmark) := by show _ = _; rw [hx', data_append, HX.out, HT.out]; rfl
            have hadd := fun w => run_string_add_sum (P := Tryd.prog) w x ⟨#[35]⟩ (by show x.size + 1 ≤ _; omega)
            rw [← hx'] at hadd
            clear hx' hbit
            go_wp2
            go_round
            case rel => exact ⟨j + 1, x', by go_num, by omega, rfl, HX'.out⟩
            case measure => simp [intOf]; omega
          · rw [hbit] at q2 HT
            obtain ⟨x', hx'⟩ : ∃ x', x' = x ++ (⟨#[46]⟩ : ByteArray) := ⟨_, rfl⟩
            have HX' : Hid (x'.data.toList = ((gb bss k).take (j + 1)).map bmark) := by show _ = _; rw [hx', data_append, HX.out, HT.out]; rfl
            have hadd := fun w => run_string_add_sum (P := Tryd.prog) w x ⟨#[46]⟩ (by show x.size + 1 ≤ _; omega)
            rw [← hx'] at hadd
            clear hx' hbit
            go_wp2
            go_round
            case rel => exact ⟨j + 1, x', by go_num, by omega, rfl, HX'.out⟩
            case measure => simp [intOf]; omega
        · obtain rfl : j = (gb bss k).length := by omega
          have HE : Hid (x = btext (gb bss k)) := by
            show _ = _
            refine str_of x ?_
            rw [HX.out, List.take_length]
          have HL : Hid (((bss.take k).map btext).length = k) := by show _ = _; rw [List.length_map, List.length_take]; omega
          have HTK : Hid ((bss.take (k + 1)).map btext = (bss.take k).map btext ++ [btext (gb bss k)]) := by
            show _ = _
            rw [List.take_succ_eq_append_getElem hlt, List.map_append, gb_lt hlt]; rfl
          go_wp2_with (at_builtin; refine append_str rfl _ _ rfl (w.heap.size + 2) _ ((bss.take k).map btext) rfl (HO.out.below (bel1 _ _)) _ x rfl ((Blk.new _ _ _).cell 0) (by rw [HL.out]; omega) (by simp; omega) ?_; intro A2 c2 w3 ho3 hb3 hg3; have hne : ∀ g, g < w.heap.size + 2 → some g ≠ (Value.slice A' k c').ownBlock := (fun g hg he => by have := (HO.out.lt g he.symm).1; omega); have f1 := (e1.alloc (.cells #[.string x] 9)).grown hg3 (hne _ (by omega)); have f0 := (e0.alloc (.cells #[.string x] 9)).grown hg3 (hne _ (by omega)); have p1 : w3.cell? ⟨w.heap.size + 1, 0, none⟩ = some (.slice A' k c') := f1.cell 0; have z1 := f1.frozen 0; rw [HL.out] at ho3 ⊢)
          have HO3 := Lib.hid ho3; clear ho3
          have hz3 := hb3.size
          simp at hz3
          go_roundw
          case rel =>
            refine ⟨k + 1, A2, c2, by go_num, by omega, f1.set 0 _, f0.far (by dsimp only; omega) _, ?_, ((hb.alloc (by omega) _).trans (hb3.mono (by omega))).setCell (by dsimp only; omega) _, by simp; omega⟩
            rw [HTK.out, ← HE.out]
            exact HO3.out.far' _ _ (by dsimp only; omega)
          case measure => simp [intOf]; omega
    · obtain rfl : k = bss.length := by omega
      have q00 : wr.cell? ⟨w.heap.size, 0, none⟩ = some (.slice none 0 0) := e0.cell 0
      have z00 := e0.frozen 0
      have HE : Hid ((bss.take bss.length).map btext = bss.map btext) := by show _ = _; rw [List.take_length]
      rw [HE.out] at ho
      have HO := Lib.hid ho; clear ho
      have HL : Hid ((bss.map btext).length = bss.length) := List.length_map _
      go_wp2
      refine bodyPost_ret (v := .agg #[.slice A' bss.length c']) (by simp [results, Tryd.results50, go_sem, q00]) rfl ⟨A', c', by rw [HL.out], ?_, ?_⟩
      · rw [HL.out]
        exact (HO.out.far' _ _ (by dsimp only; omega)).le (by omega)
      · exact hb.setCell (by dsimp only; omega) _
end Go.Proofs.YtpepkpikeggceaaDoor
