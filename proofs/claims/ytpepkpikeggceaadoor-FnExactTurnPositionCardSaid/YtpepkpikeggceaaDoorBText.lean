/- The text of a board: the program's join and the reference's loop, by contracts. Conditions: none. -/
import Derived.Test.YtpepkpikeggceaaDoorBoard2
import Derived.Test.YtpepkpikeggceaaDoorShelfJ
import Derived.Shelf.Strings.OnBuilder
namespace Go.Proofs.YtpepkpikeggceaaDoor
open Go.RowKit
set_option linter.unusedVariables false

/-- The rows of a board, joined by a slash. -/
def jl (ss : List ByteArray) : List UInt8 := Lib.join (ss.map (·.data.toList)) (⟨#[47]⟩ : ByteArray).data.toList
theorem jl_step (ss : List ByteArray) (k : Nat) (h : k < ss.length) : jl (ss.take (k + 1)) = if k = 0 then (gs ss k).data.toList else jl (ss.take k) ++ [47] ++ (gs ss k).data.toList := by
  cases ss with
  | nil => simp at h
  | cons x r =>
    cases k with
    | zero => simp [jl, gs, Lib.join_one]
    | succ k =>
      have h' : k < r.length := by simpa using h
      have e : gs (x :: r) (k + 1) = r[k] := by simp [gs, h']
      have hr : (r.map (·.data.toList))[k]? = some r[k].data.toList := by rw [List.getElem?_map, List.getElem?_eq_getElem h']; rfl
      simp only [jl, List.take_succ_cons, List.map_cons, Lib.join_cons, e, List.map_take]
      rw [Lib.joinTail_take_succ _ _ k _ hr]
      simp
theorem jl_len (ss : List ByteArray) (h : ∀ j, j < ss.length → (gs ss j).size ≤ 8) (k : Nat) (hk : k ≤ ss.length) : (jl (ss.take k)).length ≤ 9 * k := by
  induction k with
  | zero => simp [jl, Lib.join_nil]
  | succ k ih =>
    have h1 := h k hk
    have h2 := ih (by omega)
    rw [← data_len] at h1
    rw [jl_step ss k hk]
    split
    · omega
    · rw [List.length_append, List.length_append, List.length_singleton]; omega

set_option maxHeartbeats 1600000 in
theorem textS_any (A : Option Addr) (c : Nat) (ss : List ByteArray) (w : World) (B : Nat) (hB : B ≤ w.heap.size) (h : Rd w B A c (scells ss)) (hl0 : 0 < ss.length) (hl8 : ss.length ≤ 8) (hz : Hid (∀ j, j < ss.length → (gs ss j).size ≤ 8)) :
    Calls Tryd.prog 23 #[.agg #[.slice A ss.length c]] w fun e w' => e = .returned (.string ⟨(jl ss).toArray⟩) ∧ Below w.heap.size w w' := by
  have h1 := h.len
  have h2 := h.max
  rw [scells_len] at h1
  obtain ⟨b, o, rfl, hbB, hc⟩ := h.at (j := 0) (by rw [scells_len]; exact hl0)
  have HC0 : Hid (∀ w', Below w.heap.size w w' → ∀ i, i < ss.length → w'.cell? ⟨b, o + i, none⟩ = some (.string (gs ss i))) := fun w' hb i hi => (hb.cell (p := ⟨b, o + i, none⟩) (by show b < _; omega)).trans (hc i _ (gs_at ss i hi))
  clear hc h
  go_enter Tryd.func23, Tryd.ntmps23
  go_wp2
  have hzW : w.heap.size < (w.alloc (.cells #[.slice (some ⟨b, o, none⟩) ss.length c] 45)).heap.size := by simp
  have hAW : Below w.heap.size w (w.alloc (.cells #[.slice (some ⟨b, o, none⟩) ss.length c] 45)) := (Below.refl _ _).alloc (Nat.le_refl _) _
  have c0W : (w.alloc (.cells #[.slice (some ⟨b, o, none⟩) ss.length c] 45)).cell? ⟨w.heap.size, 0, none⟩ = some (.slice (some ⟨b, o, none⟩) ss.length c) := by simp [go_sem]
  generalize w.alloc (.cells #[.slice (some ⟨b, o, none⟩) ss.length c] 45) = W at *
  have HC := Lib.hid (HC0.out W hAW)
  go_loop [3, 4] (fun x y => ∃ (k : Nat) (s : ByteArray), y = .int .i64 k ∧ k ≤ ss.length ∧ x = .string s ∧ s.data.toList = jl (ss.take k)) (fun _ y => ss.length - (intOf y).toNat)
  case atStart => exact ⟨0, _, rfl, by omega, rfl, rfl⟩
  case round =>
    obtain ⟨k, s, rfl, hk, rfl, hs⟩ := hrel
    have hsz := jl_len ss hz.out k hk
    rw [← hs, data_len] at hsz
    have HS := Lib.hid hs; clear hs
    by_cases hlt : k < ss.length
    · have q := HC.out k hlt
      have hzk := hz.out k hlt
      have HST := Lib.hid (jl_step ss k hlt)
      by_cases h0 : k = 0
      · obtain ⟨s', hs'⟩ : ∃ s', s' = s ++ gs ss k := ⟨_, rfl⟩
        have hadd := fun w => run_string_add_sum (P := Tryd.prog) w s (gs ss k) (by omega)
        rw [← hs'] at hadd
        have HS' : Hid (s'.data.toList = jl (ss.take (k + 1))) := by
          show _ = _
          rw [hs', data_append, HS.out, HST.out, if_pos h0, h0]; rfl
        have ht : ¬ (0 : Int) < (k : Int) := by omega
        clear hs' h0
        go_wp2
        go_round
        case rel => exact ⟨k + 1, s', by go_num, by omega, rfl, HS'.out⟩
        case measure => simp [intOf]; omega
      · obtain ⟨s1, hs1⟩ : ∃ s1, s1 = s ++ (⟨#[47]⟩ : ByteArray) := ⟨_, rfl⟩
        obtain ⟨s', hs'⟩ : ∃ s', s' = s1 ++ gs ss k := ⟨_, rfl⟩
        have hadd1 := fun w => run_string_add_sum (P := Tryd.prog) w s ⟨#[47]⟩ (by show s.size + 1 ≤ _; omega)
        have hz1 : s1.size = s.size + 1 := by rw [hs1]; simp [ByteArray.size_append]; rfl
        have hadd := fun w => run_string_add_sum (P := Tryd.prog) w s1 (gs ss k) (by omega)
        rw [← hs'] at hadd
        rw [← hs1] at hadd1
        have HS' : Hid (s'.data.toList = jl (ss.take (k + 1))) := by
          show _ = _
          rw [hs', data_append, hs1, data_append, HS.out, HST.out, if_neg h0]
        have ht : (0 : Int) < (k : Int) := by omega
        clear hs' hs1 h0
        go_wp2
        go_round
        case rel => exact ⟨k + 1, s', by go_num, by omega, rfl, HS'.out⟩
        case measure => simp [intOf]; omega
    · obtain rfl : k = ss.length := by omega
      have HE : Hid (s = ⟨(jl ss).toArray⟩) := str_of s (by rw [HS.out, List.take_length])
      go_wp2
      go_ret
      exact ⟨by rw [HE.out]; rfl, hAW⟩

theorem builderX : Builder.Extra Tryd.prog Tryd.lays156_ren where
  sizeBuilder := by kernel_rfl
  liesBuilder := by kernel_rfl
  t5 := Tryd.underlying5
  a5 := Tryd.isAgg5
  z5 := Tryd.sizeOf5
  v5 := Tryd.zeroValue5
  infoByte := by kernel_rfl
  cellsByte := by kernel_rfl
  sizeByte := by kernel_rfl
  neB5 := by decide

set_option maxHeartbeats 1600000 in
theorem textI_any (A : Option Addr) (c : Nat) (ss : List ByteArray) (w : World) (B : Nat) (hB : B ≤ w.heap.size) (h : Rd w B A c (scells ss)) (hl0 : 0 < ss.length) (hl8 : ss.length ≤ 8) (hz : Hid (∀ j, j < ss.length → (gs ss j).size ≤ 8)) :
    Calls Tryd.prog 27 #[.agg #[.slice A ss.length c]] w fun e w' => e = .returned (.string ⟨(jl ss).toArray⟩) ∧ Below w.heap.size w w' := by
  have h1 := h.len
  have h2 := h.max
  rw [scells_len] at h1
  obtain ⟨b, o, rfl, hbB, hc⟩ := h.at (j := 0) (by rw [scells_len]; exact hl0)
  have HC0 : Hid (∀ w', Below w.heap.size w w' → ∀ i, i < ss.length → w'.cell? ⟨b, o + i, none⟩ = some (.string (gs ss i))) := fun w' hb i hi => (hb.cell (p := ⟨b, o + i, none⟩) (by show b < _; omega)).trans (hc i _ (gs_at ss i hi))
  clear hc h
  have hj := jl_len ss hz.out ss.length (Nat.le_refl _)
  rw [List.take_length] at hj
  go_enter Tryd.func27, Tryd.ntmps27
  go_wp2_with fail
  have hzW : w.heap.size < (w.alloc (.cells #[.slice (some ⟨b, o, none⟩) ss.length c] 45)).heap.size := by simp
  have hAW : Below w.heap.size w (w.alloc (.cells #[.slice (some ⟨b, o, none⟩) ss.length c] 45)) := (Below.refl _ _).alloc (Nat.le_refl _) _
  have c0W : (w.alloc (.cells #[.slice (some ⟨b, o, none⟩) ss.length c] 45)).cell? ⟨w.heap.size, 0, none⟩ = some (.slice (some ⟨b, o, none⟩) ss.length c) := by simp [go_sem]
  generalize w.alloc (.cells #[.slice (some ⟨b, o, none⟩) ss.length c] 45) = W at *
  have hJ : Calls Tryd.prog 32 #[.slice (some ⟨b, o, none⟩) ss.length c, .string ⟨#[47]⟩] W fun e w' => e = .returned (.string ⟨(jl ss).toArray⟩) ∧ Below W.heap.size W w' :=
    Any.strings_Join Tryd.lays156 builderX b o c ss ⟨#[47]⟩ W (fun j x hx => by
      have hj := (List.getElem?_eq_some_iff.1 hx)
      obtain ⟨hj, hx⟩ := hj
      rw [HC0.out W hAW j hj, gs_lt hj, hx]) (by have := hAW.size; omega) (by omega) h1 (by show (jl ss).length ≤ _; omega)
  refine hJ.mono ?_; rintro e w1 ⟨rfl, hb1⟩
  go_wp2
  go_ret
  exact ⟨rfl, gtr hAW hb1⟩

def resBT (ss : List ByteArray) : ByteArray := if boardB ss = true then ⟨(jl ss).toArray⟩ else ⟨#[]⟩

end Go.Proofs.YtpepkpikeggceaaDoor
