/- Splitting a text at a byte: the library's, by contracts; and the plain law. Conditions: none. -/
import Derived.Test.YtpepkpikeggceaaDoorBoard0
import Derived.Test.YtpepkpikeggceaaDoorShelfS
import Derived.Shelf.Strings.Split
namespace Go.Proofs.YtpepkpikeggceaaDoor
open Go.RowKit
set_option linter.unusedVariables false

/-- The pieces of a text between the bytes c. -/
def spl (c : UInt8) : List UInt8 → List (List UInt8)
  | [] => [[]]
  | b :: l => if b = c then [] :: spl c l else match spl c l with
    | [] => [[b]]
    | p :: ps => (b :: p) :: ps
theorem splitK_spl (c : UInt8) (l : List UInt8) : Lib.splitK [c] 0 (Lib.count l [c]) l = spl c l := by
  induction l with
  | nil => rw [Lib.count_one]; rfl
  | cons b l ih =>
    by_cases h : b = c
    · subst h
      have hix : Lib.index (b :: l) [b] = ((0 : Nat) : Int) := by rw [Lib.index]; simp [List.isPrefixOf]
      rw [Lib.count_cons_eq, Nat.add_comm, Lib.splitK, hix]
      simp [spl, ih]
    · have hp : ([c] : List UInt8).isPrefixOf (b :: l) = false := by simp [List.isPrefixOf, Ne.symm h]
      have hix : Lib.index (b :: l) [c] = if Lib.index l [c] == -1 then -1 else Lib.index l [c] + 1 := by rw [Lib.index, hp]; simp
      rw [Lib.count_cons_ne _ _ _ h]
      simp only [spl, if_neg h]
      have hge := Lib.index_ge l [c]
      by_cases hm : Lib.index l [c] = -1
      · rw [Lib.count_miss hm] at ih ⊢
        rw [← ih]; first | rfl | done
      · obtain ⟨i, hi⟩ : ∃ i : Nat, Lib.index l [c] = i := ⟨(Lib.index l [c]).toNat, by omega⟩
        rw [Lib.count_hit (by simp) hi, Nat.add_comm] at ih ⊢
        have h1 : ¬ ((i : Int) == -1) = true := fun e => by have := beq_iff_eq.1 e; omega
        have h2 : ¬ ((i : Int) + 1 == -1) = true := fun e => by have := beq_iff_eq.1 e; omega
        simp only [Lib.splitK, hix, hi, if_neg h1, if_neg h2] at ih ⊢
        rw [← ih]
        have e1 : ((i : Int) + 1).toNat = i + 1 := by omega
        simp [e1]
theorem spl_form (c : UInt8) (l : List UInt8) : ∃ o p, spl c l = o ++ [p] := by
  have h : spl c l ≠ [] := by
    cases l with
    | nil => simp [spl]
    | cons b l => simp only [spl]; split <;> (try split) <;> simp
  exact ⟨(spl c l).dropLast, (spl c l).getLast h, (List.dropLast_concat_getLast h).symm⟩
theorem spl_snoc (c b : UInt8) : ∀ (l : List UInt8) (o : List (List UInt8)) (p : List UInt8), spl c l = o ++ [p] → spl c (l ++ [b]) = if b = c then o ++ [p, []] else o ++ [p ++ [b]]
  | [], o, p, h => by
    have ho : o = [] ∧ p = [] := by
      cases o with
      | nil => simp [spl] at h; exact ⟨rfl, h⟩
      | cons x o => simp [spl] at h
    obtain ⟨rfl, rfl⟩ := ho
    by_cases hb : b = c <;> simp [spl, hb]
  | a :: l, o, p, h => by
    obtain ⟨o1, p1, h1⟩ := spl_form c l
    have ih := spl_snoc c b l o1 p1 h1
    rw [List.cons_append]
    simp only [spl] at h ⊢
    rw [ih]
    rw [h1] at h
    by_cases hb : b = c
    · simp only [if_pos hb] at ih ⊢
      by_cases ha : a = c
      · rw [if_pos ha] at h ⊢
        cases o with
        | nil => simp at h
        | cons x o =>
          simp only [List.cons_append, List.cons.injEq] at h
          obtain ⟨rfl, hq⟩ := h
          obtain ⟨rfl, hr⟩ := List.append_inj' hq rfl
          injection hr with hr; subst hr
          rfl
      · rw [if_neg ha] at h ⊢
        cases o1 with
        | nil =>
          simp only [List.nil_append] at h ⊢
          cases o with
          | nil => injection h with h; subst h; rfl
          | cons x o => simp at h
        | cons y o1 =>
          simp only [List.cons_append] at h ⊢
          cases o with
          | nil => simp at h
          | cons x o =>
            simp only [List.cons_append, List.cons.injEq] at h
            obtain ⟨rfl, hq⟩ := h
            obtain ⟨rfl, hr⟩ := List.append_inj' hq rfl
            injection hr with hr; subst hr
            rfl
    · simp only [if_neg hb] at ih ⊢
      by_cases ha : a = c
      · rw [if_pos ha] at h ⊢
        cases o with
        | nil => simp at h
        | cons x o =>
          simp only [List.cons_append, List.cons.injEq] at h
          obtain ⟨rfl, hq⟩ := h
          obtain ⟨rfl, hr⟩ := List.append_inj' hq rfl
          injection hr with hr; subst hr
          rfl
      · rw [if_neg ha] at h ⊢
        cases o1 with
        | nil =>
          simp only [List.nil_append] at h ⊢
          cases o with
          | nil => injection h with h; subst h; rfl
          | cons x o => simp at h
        | cons y o1 =>
          simp only [List.cons_append] at h ⊢
          cases o with
          | nil => simp at h
          | cons x o =>
            simp only [List.cons_append, List.cons.injEq] at h
            obtain ⟨rfl, hq⟩ := h
            obtain ⟨rfl, hr⟩ := List.append_inj' hq rfl
            injection hr with hr; subst hr
            rfl
theorem spl_len (c : UInt8) (l : List UInt8) : (spl c l).length ≤ l.length + 1 := by
  induction l with
  | nil => simp [spl]
  | cons b l ih =>
    simp only [spl]
    split
    · simp; exact ih
    · split
      · simp
      · rename_i p ps e; rw [e] at ih; simp at ih ⊢; omega
def pieces (c : UInt8) (s : ByteArray) : List ByteArray := (spl c s.data.toList).map str
theorem pieces_len (c : UInt8) (s : ByteArray) : (pieces c s).length ≤ s.size + 1 := by rw [pieces, List.length_map]; have := spl_len c s.data.toList; rw [data_len] at this; exact this
theorem Own.new (w : World) (base : Nat) (T : TypeId) (cs : List Value) (hb : base ≤ w.heap.size) (hl : cs.length ≤ 100000000) : Own (w.alloc (.cells cs.toArray T)) base T (.slice (some ⟨w.heap.size, 0, none⟩) cs.length cs.length) cs := by
  have h := World.ownsRow_lit (base := base) (e := T) (size := 1) w cs.toArray cs.length hb (by unfold maxLen; omega) (by simp)
  exact h

set_option maxHeartbeats 1000000 in
theorem split_any (c : UInt8) (s : ByteArray) (w : World) (hs : s.size ≤ 10000000) :
    Calls Tryd.prog 16 #[.string s, .string ⟨#[c]⟩] w fun e w' => ∃ A c', e = .returned (.slice A (pieces c s).length c') ∧ Own w' w.heap.size 9 (.slice A (pieces c s).length c') (scells (pieces c s)) ∧ Below w.heap.size w w' := by
  have hcb : Lib.countB s ⟨#[c]⟩ = Lib.count s.data.toList [c] := rfl
  have hle := Lib.countB_le ⟨#[c]⟩ (by show 1 ≤ 1; omega) s.size s (Nat.le_refl _)
  have hp : Lib.splitB ⟨#[c]⟩ 0 (Lib.countB s ⟨#[c]⟩) s = pieces c s := by
    have h1 := Lib.splitB_data ⟨#[c]⟩ 0 (Lib.countB s ⟨#[c]⟩) s
    have h2 : Lib.splitK [c] 0 (Lib.count s.data.toList [c]) s.data.toList = spl c s.data.toList := splitK_spl c _
    have h3 : (Lib.splitB ⟨#[c]⟩ 0 (Lib.countB s ⟨#[c]⟩) s).map (·.data.toList) = spl c s.data.toList := h1.trans h2
    rw [pieces, ← h3, List.map_map]
    conv => lhs; rw [← List.map_id (Lib.splitB ⟨#[c]⟩ 0 (Lib.countB s ⟨#[c]⟩) s)]
    exact List.map_congr_left fun x _ => str_of x rfl
  have hlen := Lib.splitB_all ⟨#[c]⟩ (by show 1 ≤ 1; omega) 0 _ s rfl
  have hN : ((Lib.countB s ⟨#[c]⟩ + 1 : Nat) : Int) = min (if (-1 : Int) < 0 then (Lib.countB s ⟨#[c]⟩ : Int) + 1 else -1) ((s.size : Int) + 1) := by rw [if_pos (by decide)]; omega
  have k : Calls Tryd.prog 38 #[.string s, .string ⟨#[c]⟩, .int .i64 0, .int .i64 (-1)] w fun e w' =>
      e = .returned (.slice (some ⟨w.heap.size, 0, none⟩) (Lib.splitB ⟨#[c]⟩ 0 (Lib.countB s ⟨#[c]⟩ + 1 - 1) s).length (Lib.countB s ⟨#[c]⟩ + 1)) ∧ w' = w.alloc (.cells (Lib.cellsOf (Lib.splitB ⟨#[c]⟩ 0 (Lib.countB s ⟨#[c]⟩ + 1 - 1) s) (Lib.countB s ⟨#[c]⟩ + 1)) 9) :=
    Any.strings_genSplit_core { Tryd.lays146 with } (by kernel_rfl) s ⟨#[c]⟩ 0 (-1) (Lib.countB s ⟨#[c]⟩ + 1) w (by omega) (by show 1 ≤ 1; omega) (Nat.zero_le _)
      (fun x cc hx => (Any.strings_Index_one { Tryd.lays146 with } x c _).mono fun e w' ⟨h1, h2⟩ => ⟨by rw [h1, ← Lib.index_one], h2⟩)
      ((Any.strings_Count_one { Tryd.lays146 with } s c w).mono fun e w' ⟨h1, h2⟩ => ⟨by rw [h1]; show _ = Ending.returned (.int .i64 ((Lib.count s.data.toList [c] : Nat) : Int)); rw [Lib.count_one]; rfl, h2⟩)
      (by decide) (by decide) hN
  rw [Nat.add_sub_cancel] at k
  have hl2 : (scells (pieces c s)).length = Lib.countB s ⟨#[c]⟩ + 1 := by rw [scells_len, ← hp, hlen]
  have e2 : Lib.cellsOf (Lib.splitB ⟨#[c]⟩ 0 (Lib.countB s ⟨#[c]⟩) s) (Lib.countB s ⟨#[c]⟩ + 1) = (scells (pieces c s)).toArray := by
    rw [← hlen, hp]; exact Lib.cellsOf_full _
  rw [e2, hlen, ← hl2] at k
  have ho := Own.new w w.heap.size 9 (scells (pieces c s)) (Nat.le_refl _) (by omega)
  go_enter Tryd.func16, Tryd.ntmps16
  go_wp2_with fail
  refine k.mono ?_; rintro e w' ⟨rfl, rfl⟩
  have HO := Lib.hid ho
  have HB : Hid (Below w.heap.size w (w.alloc (.cells (scells (pieces c s)).toArray 9))) := bel1 _ _
  have HL : Hid ((pieces c s).length = (scells (pieces c s)).length) := (scells_len _).symm
  clear ho k
  go_wp2
  go_ret
  exact ⟨some ⟨w.heap.size, 0, none⟩, (scells (pieces c s)).length, by rw [HL.out, hl2]; rfl, by rw [HL.out]; exact HO.out, HB.out⟩
end Go.Proofs.YtpepkpikeggceaaDoor
