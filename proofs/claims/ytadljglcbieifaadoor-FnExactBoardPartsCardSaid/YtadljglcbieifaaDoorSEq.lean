/- The laws' own helpers on lists of texts: markText, eqStringS, markStringS, heldStringS, by contracts. Conditions: none. -/
import Derived.Test.YtadljglcbieifaaDoorIn
import Derived.Test.YtadljglcbieifaaDoorBytes
import Derived.OwnWalk
namespace Go.Proofs.YtadljglcbieifaaDoor
open Go.RowKit
set_option linter.unusedVariables false

/-- The last digit, as a byte. -/
def dgt (k : Nat) : UInt8 := UInt8.ofNat (48 + k % 10)
/-- The decimal digits of a number, none for 0. -/
def digs (k : Nat) : List UInt8 := if h : k = 0 then [] else digs (k / 10) ++ [dgt k]
termination_by k
decreasing_by omega
theorem digs_zero : digs 0 = [] := by rw [digs]; rfl
theorem digs_pos (k : Nat) (h : k ≠ 0) : digs k = digs (k / 10) ++ [dgt k] := by rw [digs, dif_neg h]
theorem digs_len (k : Nat) : (digs k).length ≤ k := by
  induction k using Nat.strongRecOn with
  | _ k ih =>
    by_cases h : k = 0
    · subst h; rw [digs_zero]; exact Nat.le_refl _
    · have := ih (k / 10) (by omega)
      rw [digs_pos k h, List.length_append, List.length_singleton]
      by_cases h1 : k = 1
      · subst h1
        have : digs (1 / 10) = [] := digs_zero
        rw [this]; simp
      · omega
/-- The mark of a number. -/
def mt (k : Nat) : ByteArray := str (109 :: digs k)
theorem blk_back {w : World} {g : Nat} (b : UInt8) (h : Blk w g 5 #[.int .u8 (b.toNat : Int)]) : (convert 36 9 (.slice (some ⟨g, 0, none⟩) 1 1)).run Tryd.prog w = .ok (.string (str [b])) w :=
  run_convert_bytes_back w _ _ 5 ⟨g, 0, none⟩ 1 [b] Tryd.underlying36 Tryd.underlying5 Tryd.underlying9 fun j hj => by
    have : j = 0 := by simpa using hj
    subst this
    rw [add_none]
    exact h.cell 0
theorem dig_u8 (k : Nat) : ((dgt k).toNat : Int) = 48 + (k : Int) % 10 := by
  unfold dgt
  have : (UInt8.ofNat (48 + k % 10)).toNat = 48 + k % 10 := by
    rw [UInt8.toNat_ofNat']
    omega
  rw [this]; omega

set_option maxHeartbeats 400000 in
theorem markText_any (k : Nat) (w : World) (h1 : 1 ≤ k) (h2 : k ≤ 1000000000) :
    Calls Tryd.prog 74 #[.int .i64 k] w fun e w' => e = .returned (.string (mt k)) ∧ Below w.heap.size w w' := by
  have hlen := digs_len k
  have hk0 : decide (k = 0) = false := by simp; omega
  go_enter Tryd.func74, Tryd.ntmps74
  go_wp2
  go_loopw [0, 3] (fun i v wr => ∃ (j : Nat) (o : ByteArray), i = .int .i64 j ∧ j ≤ k ∧ v = .string o ∧ digs j ++ o.data.toList = digs k ∧ Below w.heap.size w wr) (fun i _ _ => (intOf i).toNat)
  case atStart => exact ⟨k, _, rfl, by omega, rfl, by simp, Below.refl _ _⟩
  case round =>
    obtain ⟨j, o, rfl, hj, rfl, ho, hb⟩ := hrel
    have hoz : o.size ≤ k := by
      have := congrArg List.length ho
      rw [List.length_append, data_len] at this; omega
    have HO := Lib.hid ho; clear ho
    have hzr := hb.size
    by_cases hp : 0 < j
    · have hd := digs_pos j (by omega)
      obtain ⟨o', ho'⟩ : ∃ o', o' = str [dgt j] ++ o := ⟨_, rfl⟩
      have HD : Hid (digs (j / 10) ++ o'.data.toList = digs k) := by
        show _ = _
        rw [ho', data_append, str_data, ← List.append_assoc, ← hd]
        exact HO.out
      have hadd := fun w => run_string_add_sum (P := Tryd.prog) w (str [dgt j]) o (by rw [str_size, List.length_singleton]; omega)
      rw [← ho'] at hadd
      have hbk := blk_back (w := wr.alloc (.cells #[.int .u8 ((dgt j).toNat : Int)] 5)) (dgt j) (Blk.new _ _ _)
      rw [dig_u8] at hbk
      have hjt : (0 : Int) ≤ (j : Int) := by omega
      clear hd ho'
      go_wp2
      go_roundw
      case rel => exact ⟨j / 10, o', by go_num, by omega, rfl, HD.out, hb.alloc hzr _⟩
      case measure => simp [intOf]; omega
    · obtain rfl : j = 0 := by omega
      have HE : Hid (o.data.toList = digs k) := by have := HO.out; rw [digs_zero] at this; exact this
      obtain ⟨r, hr⟩ : ∃ r, r = (⟨#[109]⟩ : ByteArray) ++ o := ⟨_, rfl⟩
      have HR : Hid (r = mt k) := by
        show _ = _
        refine str_of _ ?_
        rw [hr, data_append, HE.out]; rfl
      have hadd := fun w => run_string_add_sum (P := Tryd.prog) w ⟨#[109]⟩ o (by show 1 + o.size ≤ _; omega)
      rw [← hr] at hadd
      clear hr
      go_wp2
      go_ret
      exact ⟨by rw [HR.out]; rfl, hb⟩
/-- The i-th text. -/
def gs (ss : List ByteArray) (i : Nat) : ByteArray := ss.getD i ByteArray.empty
theorem gs_lt {ss : List ByteArray} {i : Nat} (h : i < ss.length) : gs ss i = ss[i] := by simp [gs, h]
theorem gs_at (ss : List ByteArray) (i : Nat) (h : i < ss.length) : (scells ss)[i]? = some (.string (gs ss i)) := by
  rw [scells_at ss i ss[i] (List.getElem?_eq_getElem h), gs_lt h]

set_option maxHeartbeats 400000 in
theorem eqStr_same (A A' : Option Addr) (c c' : Nat) (ss : List ByteArray) (w : World) (B : Nat) (hB : B ≤ w.heap.size) (h : Rd w B A c (scells ss)) (h' : Rd w B A' c' (scells ss)) :
    Calls Tryd.prog 100 #[.slice A ss.length c, .slice A' ss.length c'] w fun e w' => e = .returned (.bool true) ∧ Below w.heap.size w w' := by
  have h1 := h.len
  have h2 := h.max
  have h3 := h'.len
  have h4 := h'.max
  rw [scells_len] at h1 h3
  go_enter Tryd.func100, Tryd.ntmps100
  go_wp2
  go_loopw [5] (fun i wr => ∃ k : Nat, i = .int .i64 k ∧ k ≤ ss.length ∧ Below w.heap.size w wr) (fun i _ => ss.length - (intOf i).toNat)
  case atStart => exact ⟨0, rfl, by omega, Below.refl _ _⟩
  case round =>
    obtain ⟨k, rfl, hk, hb⟩ := hrel
    by_cases hlt : k < ss.length
    · obtain ⟨b, o, rfl, hbB, hc⟩ := (h.below hb hB).at (j := k) (by rw [scells_len]; exact hlt)
      obtain ⟨b', o', rfl, hbB', hc'⟩ := (h'.below hb hB).at (j := k) (by rw [scells_len]; exact hlt)
      have hc1 := hc k _ (gs_at ss k hlt)
      have hc2 := hc' k _ (gs_at ss k hlt)
      clear hc hc'
      go_wp2
      go_quiet (fail)
      go_wp2
      go_roundw
      case rel => exact ⟨k + 1, by go_num, by omega, bdrew hb _⟩
      case measure => simp [intOf]; omega
    · go_wp2
      go_ret
      exact ⟨rfl, hb⟩
/-- n marks from k on. -/
def marks (k n : Nat) : List ByteArray := (List.range n).map fun i => mt (k + i)
theorem marks_len (k n : Nat) : (marks k n).length = n := by simp [marks]
theorem gs_marks (k n i : Nat) (h : i < n) : gs (marks k n) i = mt (k + i) := by simp [gs, marks, h]
theorem marks_step (k : Nat) (ss : List ByteArray) (j : Nat) (h : j < ss.length) : (scells (marks k j ++ ss.drop j)).set j (.string (mt (k + j))) = scells (marks k (j + 1) ++ ss.drop (j + 1)) := by
  have hl : (marks k j).map Value.string = scells (marks k j) := rfl
  rw [scells, List.map_append, List.set_append_right _ _ (by rw [List.length_map, marks_len]; exact Nat.le_refl _), List.length_map, marks_len, Nat.sub_self, List.drop_eq_getElem_cons h, List.map_cons, List.set_cons_zero]
  simp [marks, scells, List.range_succ]

set_option maxHeartbeats 400000 in
theorem markStr_any (A : Option Addr) (c : Nat) (ss : List ByteArray) (k : Nat) (w : World) (lo : Nat) (h : Own w lo 9 (.slice A ss.length c) (scells ss)) (hlo : lo ≤ w.heap.size) (hk : 1 ≤ k) (hb : k + ss.length ≤ 100000000) :
    Calls Tryd.prog 101 #[.slice A ss.length c, .int .i64 k] w fun e w' =>
      e = .returned (.int .i64 ((k + ss.length : Nat) : Int)) ∧ Own w' lo 9 (.slice A ss.length c) (scells (marks k ss.length)) ∧ Below lo w w' := by
  have h1 := h.rd.len
  have h2 := h.rd.max
  rw [scells_len] at h1
  go_enter Tryd.func101, Tryd.ntmps101
  go_wp2
  go_loopw [1, 5] (fun k' i wr => ∃ j : Nat, i = .int .i64 j ∧ k' = .int .i64 ((k + j : Nat) : Int) ∧ j ≤ ss.length ∧ Own wr lo 9 (.slice A ss.length c) (scells (marks k j ++ ss.drop j)) ∧ Below lo w wr)
    (fun _ i _ => ss.length - (intOf i).toNat)
  case atStart => exact ⟨0, rfl, rfl, by omega, by simpa [marks] using h, Below.refl _ _⟩
  case round =>
    clear h
    obtain ⟨j, rfl, rfl, hj, ho, hbl⟩ := hrel
    have hlen : (marks k j ++ ss.drop j).length = ss.length := by rw [List.length_append, marks_len, List.length_drop]; omega
    by_cases hlt : j < ss.length
    · have HO := Lib.hid ho; clear ho
      have HM : Hid ((scells (marks k j ++ ss.drop j)).length = ss.length) := by show _ = _; rw [scells_len, hlen]
      have HST := Lib.hid (marks_step k ss j hlt)
      clear hlen
      have hzr := hbl.size
      go_wp2_with fail
      refine (markText_any (k + j) wr (by omega) (by omega)).mono ?_; rintro e w1 ⟨rfl, hb1⟩
      have ho1 := HO.out.below hb1
      obtain ⟨g, rfl, -, hlo1, hgl, hc, hf⟩ := ho1.at (by rw [HM.out]; omega)
      have hgs : j < (marks k j ++ ss.drop j).length := by have := HM.out; rw [scells_len] at this; omega
      have hcj := hc j _ (gs_at _ j hgs)
      have hfj := hf j
      clear hc hf hgs
      have ho' : w1.ownsRow lo 9 1 (.slice (some ⟨g, 0, none⟩) ss.length c) ss.length (scells (marks k j ++ ss.drop j)) := by
        have := ho1
        unfold Own at this
        rw [HM.out] at this
        exact this
      have hs := ho'.stored j (.string (mt (k + j)))
      rw [HST.out] at hs
      obtain ⟨hs1, hs2⟩ := hs
      have HS : Hid (Own (w1.setCell ⟨g, j, none⟩ (.string (mt (k + j)))) lo 9 (.slice (some ⟨g, 0, none⟩) ss.length c) (scells (marks k (j + 1) ++ ss.drop (j + 1)))) := by
        show Own _ _ _ _ _
        unfold Own
        rw [scells_len, List.length_append, marks_len, List.length_drop, show j + 1 + (ss.length - (j + 1)) = ss.length by omega]
        exact hs1
      clear hs1 hs2 ho' ho1
      go_wp2
      go_roundw
      case rel => exact ⟨j + 1, by go_num, by go_num, by omega, HS.out, (hbl.trans (hb1.mono (by omega))).setCell (by omega) _⟩
      case measure => simp [intOf]; omega
    · obtain rfl : j = ss.length := by omega
      rw [List.drop_length, List.append_nil] at ho
      have HO := Lib.hid ho; clear ho
      go_wp2
      go_ret
      exact ⟨rfl, HO.out, hbl⟩

set_option maxHeartbeats 400000 in
theorem heldStr_any (A : Option Addr) (c n : Nat) (k : Nat) (w : World) (B : Nat) (hB : B ≤ w.heap.size) (h : Rd w B A c (scells (marks k n))) (hk : 1 ≤ k) (hb : k + n ≤ 100000000) :
    Calls Tryd.prog 102 #[.slice A n c, .int .i64 k] w fun e w' => e = .returned (.int .i64 ((k + n : Nat) : Int)) ∧ Below w.heap.size w w' := by
  have h1 := h.len
  have h2 := h.max
  rw [scells_len, marks_len] at h1
  go_enter Tryd.func102, Tryd.ntmps102
  go_wp2
  go_loopw [1, 5] (fun k' i wr => ∃ j : Nat, i = .int .i64 j ∧ k' = .int .i64 ((k + j : Nat) : Int) ∧ j ≤ n ∧ Below w.heap.size w wr) (fun _ i _ => n - (intOf i).toNat)
  case atStart => exact ⟨0, rfl, rfl, by omega, Below.refl _ _⟩
  case round =>
    obtain ⟨j, rfl, rfl, hj, hbl⟩ := hrel
    have hzr := hbl.size
    by_cases hlt : j < n
    · obtain ⟨b, o, rfl, hbB, hc⟩ := (h.below hbl hB).at (j := j) (by rw [scells_len, marks_len]; exact hlt)
      have hcj := hc j _ (gs_at _ j (by rw [marks_len]; exact hlt))
      rw [gs_marks k n j hlt] at hcj
      clear hc
      have hx1 := fun x => (grow_cell b (o + j) (show b < wr.heap.size by omega) x).trans hcj
      clear hcj
      go_wp2
      refine wp_region_inv (Below wr.heap.size wr) (grow0 _) (by kernel_rfl) (by kernel_rfl) ?_
      repeat (go_big_quiet_step ((go_at_call 74; exact grow_step (markText_any (k + j) _ (by omega) (by omega)))))
      refine wpQuiet_nil ?_
      intro w2 hw'
      have hb2 := grow_of hw'
      clear hw'
      go_wp2
      go_roundw
      case rel => exact ⟨j + 1, by go_num, by go_num, by omega, hbl.trans (hb2.mono hzr)⟩
      case measure => simp [intOf]; omega
    · obtain rfl : j = n := by omega
      go_wp2
      go_ret
      exact ⟨rfl, hbl⟩
end Go.Proofs.YtadljglcbieifaaDoor
