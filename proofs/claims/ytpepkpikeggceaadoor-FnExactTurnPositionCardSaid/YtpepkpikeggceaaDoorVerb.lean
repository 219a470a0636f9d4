/- The verb of a single, by contract: the reference's. Conditions: none. -/
import Derived.Test.YtpepkpikeggceaaDoorBytes
import Derived.Test.YtpepkpikeggceaaDoorMem
import Derived.Test.YtpepkpikeggceaaDoorSl
import Derived.Test.YtpepkpikeggceaaDoorSEq
namespace Go.Proofs.YtpepkpikeggceaaDoor
open Go.RowKit
set_option linter.unusedVariables false

theorem Rd.of_litS {w : World} {g : Nat} {E : TypeId} {cs : List Value} (h : Blk w g E cs.toArray) {B : Nat} (hB : g < B) (hl : cs.length ≤ 1000000) : Rd w B (some ⟨g, 0, none⟩) cs.length cs := by
  refine ⟨Nat.le_refl _, by unfold maxLen; omega, fun h => by simp at h, fun j hj => ⟨g, 0, rfl, hB, fun i v hi => ?_⟩⟩
  rw [h.cell, Nat.zero_add]
  simpa using hi
/-- What singles begin with. -/
def verbs : List ByteArray := [⟨#[116, 111, 97, 100, 115]⟩, ⟨#[99, 108, 111, 98]⟩, ⟨#[117, 110, 108, 105, 107, 101]⟩, ⟨#[97, 108, 105, 107, 101]⟩, ⟨#[100, 111, 109]⟩, ⟨#[115, 116, 97, 108, 107]⟩, ⟨#[110, 105, 109]⟩]
theorem verbs_short {k : Nat} (h : k < 7) : 1 ≤ (gs verbs k).size ∧ (gs verbs k).size ≤ 6 := by
  have : k = 0 ∨ k = 1 ∨ k = 2 ∨ k = 3 ∨ k = 4 ∨ k = 5 ∨ k = 6 := by omega
  rcases this with rfl | rfl | rfl | rfl | rfl | rfl | rfl <;> decide
/-- s is the k-th verb, a space and t. -/
def isVb (s : ByteArray) (k : Nat) (t : List UInt8) : Prop := s.data.toList = (gs verbs k).data.toList ++ 32 :: t
/-- What the cut hands back. -/
def VbV (s : ByteArray) (k : Int) (t : ByteArray) : Prop := (∃ n : Nat, k = n ∧ n < 7 ∧ isVb s n t.data.toList ∧ ∀ j, j < n → ∀ r, ¬ isVb s j r) ∨ (k = -1 ∧ t = ByteArray.empty ∧ ∀ j, j < 7 → ∀ r, ¬ isVb s j r)

set_option maxHeartbeats 400000 in
theorem verbs_any (w : World) : Calls Tryd.prog 24 #[] w fun e w' => ∃ A c, e = .returned (.slice A 7 c) ∧ Rd w' w'.heap.size A c (scells verbs) ∧ Below w.heap.size w w' := by
  go_enter Tryd.func24, Tryd.ntmps24
  go_wp2
  go_ret
  refine ⟨_, _, rfl, ?_, bel1 _ _⟩
  exact Rd.of_litS (cs := scells verbs) (Blk.new w 9 _) (by simp) (by simp [scells, verbs])

theorem take_of_isVb {s : ByteArray} {k : Nat} : (∃ t, isVb s k t) ↔ ((gs verbs k).size < s.size ∧ s.extract 0 (gs verbs k).size = gs verbs k ∧ s.data.toList[(gs verbs k).size]? = some 32) := by
  have hn := data_len (gs verbs k)
  constructor
  · rintro ⟨t, h⟩
    unfold isVb at h
    have hsz := data_len s
    rw [h, List.length_append, List.length_cons] at hsz
    refine ⟨by omega, ByteArray.ext (Array.toList_inj.1 ?_), ?_⟩
    · rw [data_slice, h, List.drop_zero, Nat.sub_zero, List.take_left' hn]
    · rw [h, List.getElem?_append_right (by omega), hn, Nat.sub_self]; rfl
  · rintro ⟨h1, h2, h3⟩
    refine ⟨s.data.toList.drop ((gs verbs k).size + 1), ?_⟩
    unfold isVb
    have e := congrArg (fun x : ByteArray => x.data.toList) h2
    simp only [data_slice, List.drop_zero, Nat.sub_zero] at e
    rw [← e]
    have h4 : s.data.toList.drop (gs verbs k).size = 32 :: s.data.toList.drop ((gs verbs k).size + 1) := by
      have hlt : (gs verbs k).size < s.data.toList.length := by rw [data_len]; exact h1
      rw [List.drop_eq_getElem_cons hlt]
      rw [List.getElem?_eq_getElem hlt] at h3
      injection h3 with h3
      rw [h3]
    rw [← h4, List.take_append_drop]

set_option maxRecDepth 100000 in
set_option maxHeartbeats 1600000 in
theorem l24Cut_any (s : ByteArray) (w : World) (hmax : s.size ≤ 1048576) :
    Calls Tryd.prog 19 #[.string s] w fun e w' => (∃ k t, e = .returned (.tuple #[.int .i64 k, .string t]) ∧ VbV s k t) ∧ Below w.heap.size w w' := by
  have HVB := Lib.hid fun W => verbs_any W
  go_enter Tryd.func19, Tryd.ntmps19
  go_wp2_with fail
  ((with_reducible refine (HVB.out w).mono ?_); rintro e w1 ⟨A, c, rfl, hr, hb1⟩)
  have h1 := hr.1
  have h2 := hr.max
  have hc7 : 7 ≤ c := by simpa [scells, verbs] using h1
  have HR := Lib.hid hr
  clear hr h1 HVB
  go_wp2
  go_loopw [5] (fun v wr => ∃ k : Nat, v = .int .i64 k ∧ k ≤ 7 ∧ (∀ j, j < k → ∀ r, ¬ isVb s j r) ∧ Below w1.heap.size w1 wr) (fun v _ => 7 - (intOf v).toNat)
  case atStart => exact ⟨0, rfl, by omega, fun j hj => absurd hj (by omega), Below.refl _ _⟩
  case round =>
    obtain ⟨k, rfl, hk, hno, hb⟩ := hrel
    have HNO := Lib.hid hno
    clear hno
    have hzr := hb.size
    by_cases hlt : k < 7
    · obtain ⟨b, o, rfl, hbB, hcc⟩ := (HR.out.below hb (Nat.le_refl _)).at (j := k) (by simpa [scells, verbs] using hlt)
      have hck := hcc k (.string (gs verbs k)) (gs_at verbs k hlt)
      have hsh := verbs_short hlt
      have HVI := Lib.hid (take_of_isVb (s := s) (k := k))
      obtain ⟨v, hv⟩ : ∃ v, v = gs verbs k := ⟨_, rfl⟩
      rw [← hv] at hck hsh HVI
      clear hcc
      have hltI : (k : Int) < 7 := by omega
      by_cases hvk : ∃ t, isVb s k t
      · obtain ⟨t, ht⟩ := hvk
        obtain ⟨m1, m2, m3⟩ := HVI.out.1 ⟨t, ht⟩
        have hlv := m1
        have m3' : s[v.size] = 32 := by
          have := byte_data s v.size m1
          rw [m3] at this
          injection this with this
          exact this.symm
        have hb32 := beq_t (b := s[v.size]) (c := 32) 32 rfl m3'
        have hgt : (v.size : Int) < (s.size : Int) := by omega
        have htx : s.extract (v.size + 1) s.size = str t := str_of _ (by
          have hv' : s.data.toList = v.data.toList ++ 32 :: t := by rw [hv]; exact ht
          have hn := data_len v
          have hsz := data_len s
          rw [hv', List.length_append, List.length_cons] at hsz
          rw [data_slice, hv', show v.data.toList ++ 32 :: t = (v.data.toList ++ [32]) ++ t by simp, List.drop_left' (by simp [hn]), List.take_of_length_le (by omega)])
        have HT := Lib.hid ht; have HTX := Lib.hid htx
        have hw : IntKind.i64.wrap ((v.size : Int) + 1) = (v.size : Int) + 1 := by rw [IntKind.wrap_i64]; omega
        have hle : (v.size : Int) + 1 ≤ (s.size : Int) := by omega
        clear ht m3 m3' htx HVI hv
        go_wp2
        go_quiet (fail)
        go_wp2
        go_quiet (fail)
        go_wp2
        go_ret2
        exact ⟨⟨k, s.extract (v.size + 1) s.size, rfl, .inl ⟨k, rfl, hlt, by rw [HTX.out]; exact HT.out, HNO.out⟩⟩, bdrew (bdrew (gtr hb1 hb) _) _⟩
      · have HNX := Lib.hid (show ∀ j, j < k + 1 → ∀ r, ¬ isVb s j r from fun j hj r h => if e : j = k then hvk ⟨r, by rw [← e]; exact h⟩ else HNO.out j (by omega) r h)
        by_cases m1 : v.size < s.size
        · have hgt : (v.size : Int) < (s.size : Int) := by omega
          by_cases m2 : s.extract 0 v.size = v
          · have m3 : ¬ s[v.size] = 32 := fun e => hvk (HVI.out.2 ⟨m1, m2, by rw [byte_data s v.size m1, e]⟩)
            have hb32 := beq_f (b := s[v.size]) (c := 32) 32 rfl m3
            clear hvk HVI hv m3
            go_wp2
            go_quiet (fail)
            go_wp2
            go_roundw
            case rel => exact ⟨k + 1, by go_num, by omega, HNX.out, bdrew hb _⟩
            case measure => simp [intOf]; omega
          · have sne : ((s.extract 0 v.size).toList == v.toList) = false := by
              rw [beq_eq_false_iff_ne]
              intro e
              rw [Lib.toList_data, Lib.toList_data] at e
              exact m2 (ByteArray.ext (Array.toList_inj.1 e))
            clear hvk HVI hv m2
            go_wp2
            go_quiet (fail)
            go_wp2
            go_roundw
            case rel => exact ⟨k + 1, by go_num, by omega, HNX.out, bdrew hb _⟩
            case measure => simp [intOf]; omega
        · have hgt : ¬ (v.size : Int) < (s.size : Int) := by omega
          have hgd : decide (v.size < s.size) = false := decide_eq_false m1
          have hge : decide ((v.size : Int) < (s.size : Int)) = false := decide_eq_false hgt
          clear hvk HVI hv m1 hgt
          go_wp2
          go_quiet (fail)
          go_wp2
          go_roundw
          case rel => exact ⟨k + 1, by go_num, by omega, HNX.out, bdrew hb _⟩
          case measure => simp [intOf]; omega
    · obtain rfl : k = 7 := by omega
      go_wp2
      go_ret2
      exact ⟨⟨-1, _, rfl, .inr ⟨rfl, rfl, HNO.out⟩⟩, gtr hb1 hb⟩
end Go.Proofs.YtpepkpikeggceaaDoor
