/- New grids without marks, by contract. Conditions: none. -/
import Derived.Test.YtadljglcbieifaaDoorCompS
import Derived.Test.YtadljglcbieifaaDoorCellsF
import Derived.Test.YtadljglcbieifaaDoorMemAt
namespace Go.Proofs.YtadljglcbieifaaDoor
open Go.RowKit
set_option linter.unusedVariables false

theorem FrB.gr {w : World} {lo : Nat} {v : Value} {M : List (List Bool)} (h : FrB w lo v M) : ∃ cs, GrC w lo v cs M := h
theorem GrC.fr {w : World} {lo : Nat} {v : Value} {cs : List Value} {M : List (List Bool)} (h : GrC w lo v cs M) : FrB w lo v M := ⟨cs, h⟩
theorem make_marks {w : World} {ops : Array Oper} {rest : List Oper} {o : Oper} {a : Act} {Q : Exit → Act → World → Prop} (hg : o.guard = none) (l c : Operand)
    (hop : o.op = Op.makeSlice 156 l c) (n : Nat) (hl : a.eval l = .int .i64 n) (hc : a.eval c = .int .i64 n) (hb : n ≤ 1000000000000)
    (hK : ∀ w', Own w' w.heap.size 4 (.slice (some ⟨w.heap.size, 0, none⟩) n n) (bools (List.replicate n false)) → Below w.heap.size w w' → wpList Tryd.prog ops Q rest (a.put o.dst (.slice (some ⟨w.heap.size, 0, none⟩) n n)) w') :
    wpList Tryd.prog ops Q (o :: rest) a w := by
  obtain ⟨i0, hi, hz0, hz1, hz2⟩ := info_parts infoBool
  refine wpList_make_full w hg l c 156 hop w.heap.size 4 i0 (.bool false) 1 Tryd.underlying156 hi hz0 hz1 .i64 .i64 n n n hl hc rfl rfl (by rw [hz2]; omega) (by unfold maxLen; omega) (Nat.le_refl _) ?_
  intro w' ho hgr
  have e : (madeCells (Value.bool false).cells (n * 1)).toList = bools (List.replicate n false) := by
    simp [madeCells, bools, Value.cells, Nat.mod_one, List.map_const']
  rw [e] at ho
  refine hK w' ?_ (below_of_grown hgr)
  unfold Own
  rw [bools_len, List.length_replicate]
  exact ho
theorem noM_succ (R C : Nat) : noM (R + 1) C = noM R C ++ [List.replicate C false] := by
  unfold noM
  exact List.replicate_succ'
theorem noM_len (R C : Nat) : (noM R C).length = R := by simp [noM]

set_option maxHeartbeats 1600000 in
theorem marksI_any (A : Option Addr) (c : Nat) (ss : List ByteArray) (w : World) (B : Nat) (hB : B ≤ w.heap.size) (h : Rd w B A c (scells ss)) (hb : boardP ss) :
    Calls Tryd.prog 149 #[.agg #[.slice A ss.length c]] w fun e w' => ∃ A' c', e = .returned (.slice A' ss.length c') ∧ FrB w' w.heap.size (.slice A' ss.length c') (noM ss.length (gs ss 0).size) ∧ Below w.heap.size w w' := by
  have h1 := h.len
  have h2 := h.max
  rw [scells_len] at h1
  have hn := hb.1
  have hw := hb.2.1
  obtain ⟨b, o, rfl, hbB, hc⟩ := h.at (j := 0) (by rw [scells_len]; omega)
  have HROW : Hid (∀ i, i < ss.length → (gs ss i).size = (gs ss 0).size) := fun i hi => (hb.2.2 i hi).1
  go_enter Tryd.func149, Tryd.ntmps149
  go_wp2
  obtain ⟨W, hW⟩ : ∃ W, W = w.alloc (.cells #[.slice (some ⟨b, o, none⟩) ss.length c] 60) := ⟨_, rfl⟩
  have hAW : Below w.heap.size w W := by rw [hW]; exact bel1 _ _
  have hzW : W.heap.size = w.heap.size + 1 := by rw [hW]; simp
  have hoW : FrB (W.alloc (.cells #[] 156)) W.heap.size (.slice (some ⟨W.heap.size, 0, none⟩) 0 0) [] := FrB.nil (Own.empty W 156 _ _ (Nat.le_refl _))
  have hoW : FrB (W.alloc (.cells #[] 156)) W.heap.size (.slice (some ⟨w.heap.size + 1, 0, none⟩) 0 0) (noM 0 (gs ss 0).size) := by rw [← hzW]; exact hoW
  have HR : Hid (∀ w', Below W.heap.size W w' → ∀ i, i < ss.length → w'.cell? ⟨b, o + i, none⟩ = some (.string (gs ss i))) := fun w' hh i hi => ((hAW.trans (hh.mono (by omega))).cell (p := ⟨b, o + i, none⟩) (by show b < _; omega)).trans (hc i _ (gs_at ss i hi))
  have hbW : Below W.heap.size W (W.alloc (.cells #[] 156)) := bel1 _ _
  rw [← hW]
  have HZ := Lib.hid hzW
  clear hW hzW hc h hb
  generalize hCe : (gs ss 0).size = C at *
  have HCE := Lib.hid hCe
  clear hCe
  go_loopw [3, 10] (fun v i wr => ∃ (k : Nat) (A' : Option Addr) (c' : Nat), i = .int .i64 k ∧ k ≤ ss.length ∧ v = .slice A' k c' ∧ FrB wr W.heap.size (.slice A' k c') (noM k C) ∧ Below W.heap.size W wr) (fun _ i _ => ss.length - (intOf i).toNat)
  case atStart => exact ⟨0, _, _, rfl, by omega, rfl, hoW, hbW⟩
  case round =>
    clear hoW hbW
    obtain ⟨k, A', c', rfl, hk, rfl, ho, hb⟩ := hrel
    by_cases hlt : k < ss.length
    · have qk := HR.out _ hb k hlt
      have hsz := HROW.out k hlt
      have hzr := hb.size
      have HO := Lib.hid ho; clear ho
      obtain ⟨cs, k1, k2, k3⟩ := HO.out
      have HK : Hid (cs.length = k) := by show _ = _; rw [k2.1, List.length_map, noM_len]
      have HK3 := Lib.hid (And.intro k1 (And.intro k2 k3))
      have HK1 := Lib.hid k1
      clear k1 k2 k3
      generalize gs ss k = r at *
      obtain ⟨wo, rfl⟩ : ∃ wo : World, wo = wr := ⟨_, rfl⟩
      go_wp2_with (first
        | (at_make
           refine make_marks rfl _ _ rfl C (by rw [← hsz]; rfl) (by rw [← hsz]; rfl) (by omega) ?_
           intro w2 ho2 hb2
           have HO2 := Lib.hid ho2; have HB2 := Lib.hid hb2
           have hz2 := hb2.size
           clear ho2 hb2)
        | (at_builtin
           refine wpList_append_at rfl _ _ 154 156 (.slice none 0 0) 24 rfl Tryd.underlying154 infoBoolS rfl (by omega) W.heap.size _ cs rfl ((HK1.out.below HB2.out).below (bel1 _ _)) _ _ _ _ [.slice (some ⟨wo.heap.size, 0, none⟩) C C] rfl rfl (Rd.of_blk (Blk.new _ _ _) (Nat.lt_succ_self _)) (fun u hu => by simp at hu; subst hu; rfl) (by rw [HK.out]; simp; omega) (by simp; omega) ?_
           intro A4 c4 w4 ho4 hb4 hg4 hp4
           rw [HK.out] at ho4 hp4 ⊢
           have HP : Hid (FrB w4 W.heap.size (.slice A4 (k + 1) c4) (noM (k + 1) C)) := by
             show FrR _ _ _ _ _ _
             rw [noM_succ, List.map_append]
             have hown : Own w2 wo.heap.size 4 (.slice (some ⟨wo.heap.size, 0, none⟩) C C) (bools (List.replicate C false)) := HO2.out
             exact FrR.push (w := wo) (w1 := w2) (w2 := w2.alloc (.cells #[.slice (some ⟨wo.heap.size, 0, none⟩) C C] 156)) HK3.out hzr HB2.out hown (bel1 _ _) ho4 hg4 hp4
           have HB4 : Hid (Below W.heap.size W w4) := (((hb.trans (HB2.out.mono hzr)).alloc (by omega) _).trans hb4)
           clear ho4 hb4 hg4 hp4)
        | fail)
      go_wp2
      go_roundw
      case rel => exact ⟨k + 1, A4, c4, by go_num, by omega, rfl, HP.out, HB4.out⟩
      case measure => simp [intOf]; omega
    · obtain rfl : k = ss.length := by omega
      have HO := Lib.hid ho; have HB := Lib.hid hb
      clear ho hb
      go_wp2
      go_ret
      have hfin : FrB wr w.heap.size (.slice A' ss.length c') (noM ss.length (gs ss 0).size) := by rw [HCE.out]; exact FrR.le HO.out (by have := HZ.out; omega)
      exact ⟨_, _, rfl, hfin, hAW.trans (HB.out.mono (by have := HZ.out; omega))⟩
end Go.Proofs.YtadljglcbieifaaDoor
