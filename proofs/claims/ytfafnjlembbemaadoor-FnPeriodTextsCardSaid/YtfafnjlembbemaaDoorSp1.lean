/- Splitting a text at a byte: the reference's, by contract. Conditions: none. -/
import Derived.Test.YtfafnjlembbemaaDoorBytes
import Derived.Test.YtfafnjlembbemaaDoorMem
import Derived.Test.YtfafnjlembbemaaDoorSl
namespace Go.Proofs.YtfafnjlembbemaaDoor
open Go.RowKit
set_option linter.unusedVariables false

/-- The pieces of a text between the bytes c. -/
def spl (c : UInt8) : List UInt8 → List (List UInt8)
  | [] => [[]]
  | b :: l => if b = c then [] :: spl c l else match spl c l with
    | [] => [[b]]
    | p :: ps => (b :: p) :: ps
theorem spl_form (c : UInt8) (l : List UInt8) : ∃ o p, spl c l = o ++ [p] := by
  have h : spl c l ≠ [] := by
    cases l with
    | nil => simp [spl]
    | cons b l => simp only [spl]; split <;> (try split) <;> simp
  exact ⟨(spl c l).dropLast, (spl c l).getLast h, (List.dropLast_concat_getLast h).symm⟩
theorem spl_snoc (c b : UInt8) : ∀ (l : List UInt8) (o : List (List UInt8)) (p : List UInt8), spl c l = o ++ [p] → spl c (l ++ [b]) = if b = c then o ++ [p, []] else o ++ [p ++ [b]]
  | [], o, p, h => by
    have ho : o = [] ∧ p = [] := by
      cases o with
      | nil => simp [spl] at h; exact ⟨rfl, h⟩
      | cons x o => simp [spl] at h
    obtain ⟨rfl, rfl⟩ := ho
    by_cases hb : b = c <;> simp [spl, hb]
  | a :: l, o, p, h => by
    obtain ⟨o1, p1, h1⟩ := spl_form c l
    have ih := spl_snoc c b l o1 p1 h1
    rw [List.cons_append]
    simp only [spl] at h ⊢
    rw [ih]
    rw [h1] at h
    by_cases hb : b = c
    · simp only [if_pos hb] at ih ⊢
      by_cases ha : a = c
      · rw [if_pos ha] at h ⊢
        cases o with
        | nil => simp at h
        | cons x o =>
          simp only [List.cons_append, List.cons.injEq] at h
          obtain ⟨rfl, hq⟩ := h
          obtain ⟨rfl, hr⟩ := List.append_inj' hq rfl
          injection hr with hr; subst hr
          rfl
      · rw [if_neg ha] at h ⊢
        cases o1 with
        | nil =>
          simp only [List.nil_append] at h ⊢
          cases o with
          | nil => injection h with h; subst h; rfl
          | cons x o => simp at h
        | cons y o1 =>
          simp only [List.cons_append] at h ⊢
          cases o with
          | nil => simp at h
          | cons x o =>
            simp only [List.cons_append, List.cons.injEq] at h
            obtain ⟨rfl, hq⟩ := h
            obtain ⟨rfl, hr⟩ := List.append_inj' hq rfl
            injection hr with hr; subst hr
            rfl
    · simp only [if_neg hb] at ih ⊢
      by_cases ha : a = c
      · rw [if_pos ha] at h ⊢
        cases o with
        | nil => simp at h
        | cons x o =>
          simp only [List.cons_append, List.cons.injEq] at h
          obtain ⟨rfl, hq⟩ := h
          obtain ⟨rfl, hr⟩ := List.append_inj' hq rfl
          injection hr with hr; subst hr
          rfl
      · rw [if_neg ha] at h ⊢
        cases o1 with
        | nil =>
          simp only [List.nil_append] at h ⊢
          cases o with
          | nil => injection h with h; subst h; rfl
          | cons x o => simp at h
        | cons y o1 =>
          simp only [List.cons_append] at h ⊢
          cases o with
          | nil => simp at h
          | cons x o =>
            simp only [List.cons_append, List.cons.injEq] at h
            obtain ⟨rfl, hq⟩ := h
            obtain ⟨rfl, hr⟩ := List.append_inj' hq rfl
            injection hr with hr; subst hr
            rfl
def pieces (c : UInt8) (s : ByteArray) : List ByteArray := (spl c s.data.toList).map str
theorem map_str_data (os : List ByteArray) : (os.map (·.data.toList)).map str = os := by
  rw [List.map_map]
  conv => rhs; rw [← List.map_id os]
  exact List.map_congr_left fun x _ => (str_of x rfl).symm
theorem pieces_of {c : UInt8} {s : ByteArray} {os : List ByteArray} {q : List UInt8} (h : spl c s.data.toList = os.map (·.data.toList) ++ [q]) : pieces c s = os ++ [str q] := by
  rw [pieces, h, List.map_append, map_str_data]; rfl
set_option maxHeartbeats 1600000 in
theorem l1Split_any (c : UInt8) (s : ByteArray) (w : World) (hs : s.size ≤ 10000000) :
    Calls Tryd.prog 26 #[.string s, .int .u8 (c.toNat : Int)] w fun e w' => ∃ A c', e = .returned (.slice A (pieces c s).length c') ∧ Own w' w.heap.size 9 (.slice A (pieces c s).length c') (scells (pieces c s)) ∧ Below w.heap.size w w' := by
  go_enter Tryd.func26, Tryd.ntmps26
  go_wp2
  go_loopw [5, 6, 7] (fun v x i wr => ∃ (k f : Nat) (A' : Option Addr) (c' : Nat) (os : List ByteArray), i = .int .i64 k ∧ k ≤ s.size ∧ x = .int .i64 f ∧ f ≤ k ∧ os.length ≤ k ∧ spl c (s.data.toList.take k) = os.map (·.data.toList) ++ [(s.data.toList.take k).drop f] ∧ v = .slice A' os.length c' ∧ Own wr w.heap.size 9 (.slice A' os.length c') (scells os) ∧ Below w.heap.size w wr) (fun _ _ i _ => s.size - (intOf i).toNat)
  case atStart => exact ⟨0, 0, _, _, [], rfl, by omega, rfl, by omega, by simp, rfl, rfl, Own.empty w 9 _ _ (Nat.le_refl _), bel1 _ _⟩
  case round =>
    obtain ⟨k, f, A', c', os, rfl, hk, rfl, hf, hol, hsp, rfl, ho, hb⟩ := hrel
    have HSP := Lib.hid hsp; clear hsp
    have HO := Lib.hid ho; clear ho
    have hzr := hb.size
    by_cases hlt : k < s.size
    · have hds : s.data.toList.take (k + 1) = s.data.toList.take k ++ [s[k]] := by
        have h' : k < s.data.toList.length := by rw [data_len]; exact hlt
        rw [List.take_succ_eq_append_getElem h']; rfl
      have hsn := spl_snoc c s[k] _ _ _ HSP.out
      rw [← hds] at hsn
      by_cases hc : s[k] = c
      · rw [if_pos hc] at hsn
        have hbq : ((s[k].toNat : Int) == (c.toNat : Int)) = true := beq_t _ rfl hc
        have hxd : (s.extract f k).data.toList = (s.data.toList.take k).drop f := by rw [Lib.extract_data, List.drop_take]
        have HSN : Hid (spl c (s.data.toList.take (k + 1)) = (os ++ [s.extract f k]).map (·.data.toList) ++ [(s.data.toList.take (k + 1)).drop (k + 1)]) := by
          show _ = _
          rw [hsn, List.map_append, ← hxd, List.drop_eq_nil_of_le (by rw [List.length_take]; omega)]
          simp
        clear hsn hds hxd hc
        go_wp2_with (at_builtin; refine append_str rfl _ _ rfl w.heap.size _ os rfl (HO.out.below (bel1 _ _)) _ (s.extract f k) rfl ((Blk.new _ _ _).cell 0) (by omega) (by simp; omega) ?_; intro A5 c5 w5 ho5 hb5 hg5)
        have HO5 := Lib.hid ho5; clear ho5
        go_roundw
        case rel => exact ⟨k + 1, k + 1, A5, c5, os ++ [s.extract f k], by go_num, by omega, by go_num, Nat.le_refl _, by rw [List.length_append, List.length_singleton]; omega, HSN.out, by rw [List.length_append]; rfl, by rw [List.length_append]; exact HO5.out, (hb.alloc hb.size _).trans hb5⟩
        case measure => simp [intOf]; omega
      · rw [if_neg hc] at hsn
        have hbq : ((s[k].toNat : Int) == (c.toNat : Int)) = false := beq_f _ rfl hc
        have HSN : Hid (spl c (s.data.toList.take (k + 1)) = os.map (·.data.toList) ++ [(s.data.toList.take (k + 1)).drop f]) := by
          show _ = _
          rw [hsn, hds, List.drop_append_of_le_length (by rw [List.length_take, data_len]; omega)]
        clear hsn hds hc
        go_wp2
        go_roundw
        case rel => exact ⟨k + 1, f, A', c', os, by go_num, by omega, rfl, by omega, by omega, HSN.out, rfl, HO.out, hb⟩
        case measure => simp [intOf]; omega
    · obtain rfl : k = s.size := by omega
      have hxd : (s.extract f s.size).data.toList = (s.data.toList.take s.size).drop f := by rw [Lib.extract_data, List.drop_take]
      have HE : Hid (s.data.toList.take s.size = s.data.toList) := List.take_of_length_le (by rw [data_len]; exact Nat.le_refl _)
      have HPC : Hid (pieces c s = os ++ [s.extract f s.size]) := by
        have h := HSP.out
        rw [← hxd, HE.out] at h
        have h2 := pieces_of h
        show _ = _
        rw [h2, ← str_of (s.extract f s.size) rfl]
      clear hxd
      go_wp2_with (at_builtin; refine append_str rfl _ _ rfl w.heap.size _ os rfl (HO.out.below (bel1 _ _)) _ (s.extract f s.size) rfl ((Blk.new _ _ _).cell 0) (by omega) (by simp; omega) ?_; intro A5 c5 w5 ho5 hb5 hg5)
      have HO5 := Lib.hid ho5; clear ho5
      go_ret
      refine ⟨A5, c5, ?_, ?_, (hb.alloc hb.size _).trans hb5⟩
      · rw [HPC.out, List.length_append]; rfl
      · rw [HPC.out, List.length_append]; exact HO5.out
end Go.Proofs.YtfafnjlembbemaaDoor
