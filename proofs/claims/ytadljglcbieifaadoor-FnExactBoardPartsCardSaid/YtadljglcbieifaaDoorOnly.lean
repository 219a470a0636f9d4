/- The board in which only marked cells are free, by contract. Conditions: none. -/
import Derived.Test.YtadljglcbieifaaDoorMarks
import Derived.Test.YtadljglcbieifaaDoorExch
import Derived.Test.YtadljglcbieifaaDoorTurnC
namespace Go.Proofs.YtadljglcbieifaaDoor
open Go.RowKit
set_option linter.unusedVariables false

/-- The first k bytes by their marks. -/
def onl (bs : List Bool) (l : List UInt8) (k : Nat) : List UInt8 := (bs.take k).map bmark ++ l.drop k
theorem onl_zero (bs : List Bool) (l : List UInt8) : onl bs l 0 = l := by simp [onl]
theorem onl_len (bs : List Bool) (l : List UInt8) (k : Nat) (h : bs.length = l.length) : (onl bs l k).length = l.length := by simp [onl]; omega
theorem onl_at (bs : List Bool) (l : List UInt8) (k : Nat) (h : bs.length = l.length) (hk : k < l.length) : (onl bs l k)[k]? = some l[k] := by
  have hl : ((bs.take k).map bmark).length = k := by rw [List.length_map, List.length_take]; omega
  rw [onl, List.getElem?_append_right (by omega), hl, Nat.sub_self, List.getElem?_drop, Nat.add_zero, List.getElem?_eq_getElem hk]
theorem onl_step (bs : List Bool) (l : List UInt8) (k : Nat) (h : bs.length = l.length) (hk : k < l.length) : (onl bs l k).set k (bmark (bs.getD k false)) = onl bs l (k + 1) := by
  have hk' : k < bs.length := by omega
  have hl : ((bs.take k).map bmark).length = k := by rw [List.length_map, List.length_take]; omega
  have ht : bs.take (k + 1) = bs.take k ++ [bs[k]] := List.take_succ_eq_append_getElem hk'
  have hg : bs.getD k false = bs[k] := by simp [hk']
  rw [onl, List.set_append_right _ _ (by omega), hl, Nat.sub_self, List.drop_eq_getElem_cons hk, List.set_cons_zero, onl, ht, List.map_append, hg]
  simp
theorem set_same (l : List UInt8) (k : Nat) (b : UInt8) (h : l[k]? = some b) : l.set k b = l := by
  apply List.ext_getElem?
  intro i
  by_cases e : k = i
  · subst e
    have hl := (List.getElem?_eq_some_iff.1 h).1
    rw [List.getElem?_set_self hl, h]
  · rw [List.getElem?_set_ne e]
theorem onl_all (bs : List Bool) (l : List UInt8) (h : bs.length = l.length) : onl bs l l.length = bs.map bmark := by
  rw [onl, List.take_of_length_le (by omega), List.drop_of_length_le (by omega), List.append_nil]
/-- The rows of a board by marks. -/
def onlyL (M : List (List Bool)) : List ByteArray := M.map btext
theorem onlyL_take (M : List (List Bool)) (k : Nat) (h : k < M.length) : (onlyL M).take (k + 1) = (onlyL M).take k ++ [btext (gb M k)] := by
  have h' : k < (onlyL M).length := by simp [onlyL]; exact h
  rw [List.take_succ_eq_append_getElem h']
  congr 2
  simp [onlyL, gb_lt h]

set_option maxRecDepth 100000 in
set_option maxHeartbeats 3200000 in
theorem onlyI_any (A : Option Addr) (c : Nat) (ss : List ByteArray) (Ai : Option Addr) (ci : Nat) (M : List (List Bool)) (w : World) (B B' : Nat) (hB : B ≤ w.heap.size) (hB' : B' ≤ w.heap.size) (h : Rd w B A c (scells ss)) (hb : boardP ss)
    (hi : RdB w B' Ai ci M) (hM : Grid ss.length (gs ss 0).size M) (hfree : ∀ i k, getM M i k = true → frI ss i k = true) :
    Calls Tryd.prog 152 #[.agg #[.slice A ss.length c], .slice Ai ss.length ci] w (RetT w (onlyL M)) := by
  have h1 := h.len
  have h2 := h.max
  rw [scells_len] at h1
  have hn := hb.1
  have hw := hb.2.1
  have HROW : Hid (∀ i, i < ss.length → (gs ss i).size = (gs ss 0).size) := fun i hi => (hb.2.2 i hi).1
  have HFREE : Hid (∀ i k, (hi : i < ss.length) → (hk : k < (gs ss i).size) → getM M i k = true → (gs ss i)[k] = 46) := fun i k hi hk hg => by
    have := hfree i k hg
    rw [frI_in hb hi hk, fr_at hk] at this
    simpa using this
  obtain ⟨b, o, rfl, hbB, hc⟩ := h.at (j := 0) (by rw [scells_len]; omega)
  have HR : Hid (∀ w', Below w.heap.size w w' → ∀ i, i < ss.length → w'.cell? ⟨b, o + i, none⟩ = some (.string (gs ss i))) := fun w' hh i hi => (hh.cell (p := ⟨b, o + i, none⟩) (by show b < _; omega)).trans (hc i _ (gs_at ss i hi))
  have HIN : Hid (∀ w', Below w.heap.size w w' → RdB w' B' Ai ci M) := fun w' hh => hi.below hh hB'
  have HM := Lib.hid hM
  have HOL : Hid ((onlyL M).length = ss.length) := by show _ = _; rw [onlyL, List.length_map, hM.1]
  clear h hb hi hM hfree hc
  go_enter Tryd.func152, Tryd.ntmps152
  go_wp2_with fail
  obtain ⟨V, hV⟩ : ∃ V, V = ((w.alloc (.cells #[.slice (some ⟨b, o, none⟩) ss.length c] 60)).alloc (.cells #[.slice none 0 0] 60)).alloc (.cells #[.slice none 0 0] 60) := ⟨_, rfl⟩
  have k1 : Blk V (w.heap.size + 1) 60 #[.slice none 0 0] := by rw [hV]; exact (Blk.new_at (w.alloc _) _ _ (by simp)).alloc _
  have k2 : Blk V (w.heap.size + 1 + 1) 60 #[.slice none 0 0] := by rw [hV]; exact Blk.new_at ((w.alloc _).alloc _) _ _ (by simp)
  have hAV : Below w.heap.size w V := by rw [hV]; exact ((bel2 w _ _).alloc (by simp; omega) _)
  have hzV : V.heap.size = w.heap.size + 3 := by rw [hV]; simp
  rw [← hV]
  clear hV
  generalize hCe : (gs ss 0).size = C at *
  have HCE := Lib.hid hCe
  clear hCe
  go_loopw [14] (fun i wr => ∃ (k : Nat) (A' : Option Addr) (c' : Nat), i = .int .i64 k ∧ k ≤ ss.length ∧ Blk wr (w.heap.size + 1 + 1) 60 #[.slice A' k c'] ∧ Blk wr (w.heap.size + 1) 60 #[.slice none 0 0] ∧ Own wr V.heap.size 9 (.slice A' k c') (scells ((onlyL M).take k)) ∧ Below w.heap.size w wr ∧ V.heap.size ≤ wr.heap.size) (fun i _ => ss.length - (intOf i).toNat)
  case atStart => exact ⟨0, none, 0, rfl, by omega, k2, k1, own_none _ _ _, hAV, Nat.le_refl _⟩
  case round =>
    clear k1 k2 hAV
    obtain ⟨k, A', c', rfl, hk, e2, e1, ho, hb, hzr⟩ := hrel
    by_cases hlt : k < ss.length
    · have qk := HR.out _ hb k hlt
      have hsz := HROW.out k hlt
      have HFK : Hid (∀ j, (hj : j < (gs ss k).size) → getM M k j = true → (gs ss k)[j] = 46) := fun j hj => HFREE.out k j hlt hj
      have HE1 := Lib.hid e1; have HE2 := Lib.hid e2; have HO := Lib.hid ho; have HB := Lib.hid hb
      clear e1 e2 ho hb
      generalize gs ss k = r at *
      obtain ⟨wo, rfl⟩ : ∃ wo : World, wo = wr := ⟨_, rfl⟩
      have hgl : (gb M k).length = r.data.toList.length := by rw [data_len, hsz]; exact HM.out.2 k hlt
      have HGL := Lib.hid hgl
      have HSZ := Lib.hid hsz
      have hr8 : r.size ≤ 8 := by omega
      clear hgl hsz
      go_wp2_with (refine wpList_bytes rfl (.tmp 19) r rfl rfl ?_; intro c1 w1 hr1 hb1 hz1 hc1)
      have HR1 := Lib.hid hr1; have HB1 := Lib.hid hb1
      clear hr1 hb1
      go_loopw [23] (fun i wr => ∃ j : Nat, i = .int .i64 j ∧ j ≤ r.size ∧ BRow wr wo.heap.size (onl (gb M k) r.data.toList j) ∧ Below wo.heap.size wo wr ∧ w1.heap.size ≤ wr.heap.size) (fun i _ => r.size - (intOf i).toNat)
      case atStart => exact ⟨0, rfl, by omega, by rw [onl_zero]; exact HR1.out, HB1.out, Nat.le_refl _⟩
      case round =>
        obtain ⟨j, rfl, hj, hr, hbj, hzj⟩ := hrel
        by_cases hjl : j < r.size
        · have hbw := gtr HB.out (hbj.mono (Nat.le_refl _))
          obtain ⟨l1, l2, hgt⟩ := (HIN.out _ hbw).get HM.out (by omega)
          obtain ⟨bg, og, bi, oi, cj, rfl, -, -, m1, m2, g1, g2⟩ := hgt k hlt
          have hjC : j < C := by rw [← HSZ.out]; exact hjl
          have g3 := g2 j hjC
          have hll : j < r.data.toList.length := by rw [data_len]; exact hjl
          have hst := onl_step (gb M k) r.data.toList j HGL.out hll
          have hat := onl_at (gb M k) r.data.toList j HGL.out hll
          have hlen := onl_len (gb M k) r.data.toList j HGL.out
          have hfk := hr.frozen j (by rw [hlen]; exact hll)
          have hck := hr.cell j _ hat
          have HST := Lib.hid hst; have HAT := Lib.hid hat; have HR2 := Lib.hid hr; have HBJ := Lib.hid hbj
          have HBIT : Hid ((gb M k).getD j false = getM M k j) := rfl
          have HF46 := Lib.hid (HFK.out j hjl)
          rw [getElem_data r j hjl] at hck HAT
          clear g2 hst hat hlen hr hbj hgt hll
          cases hm : getM M k j
          · rw [hm] at g3 HBIT
            go_wp2
            go_roundw
            case rel => exact ⟨j + 1, by go_num, by omega, by have := HR2.out.setn j 35 35 rfl; rw [show (35 : UInt8) = bmark ((gb M k).getD j false) by rw [HBIT.out]; rfl, HST.out] at this; exact this, HBJ.out.setCell (Nat.le_refl _) _, by simp; omega⟩
            case measure => simp [intOf]; omega
          · rw [hm] at g3 HBIT HF46
            have h46 := HF46.out rfl
            have HS : Hid (onl (gb M k) r.data.toList (j + 1) = onl (gb M k) r.data.toList j) := by
              show _ = _
              rw [← HST.out, HBIT.out]
              refine set_same _ _ _ ?_
              rw [HAT.out, h46]; rfl
            clear h46
            go_wp2
            go_roundw
            case rel => exact ⟨j + 1, by go_num, by omega, by rw [HS.out]; exact HR2.out, HBJ.out, hzj⟩
            case measure => simp [intOf]; omega
        · obtain rfl : j = r.size := by omega
          have hall : onl (gb M k) r.data.toList r.size = (gb M k).map bmark := by
            have := onl_all (gb M k) r.data.toList HGL.out
            rwa [data_len] at this
          rw [hall] at hr
          have hback := hr.back (c := c1) (n := r.size) (by rw [List.length_map, HGL.out, data_len])
          obtain ⟨x, hx⟩ : ∃ x, x = str ((gb M k).map bmark) := ⟨_, rfl⟩
          rw [← hx] at hback
          have HX : Hid (x = btext (gb M k)) := hx
          have hbw := gtr HB.out (hbj.mono (Nat.le_refl _))
          have HBJ := Lib.hid hbj
          have q2 : wr.cell? ⟨w.heap.size + 1 + 1, 0, none⟩ = some (.slice A' k c') := (HE2.out.below hbj HE2.out.lt).cell 0
          have HN : Hid (((onlyL M).take k).length = k) := by show _ = _; rw [List.length_take, HOL.out]; omega
          have hzw := hbj.size
          clear hr hall hx hbj
          go_wp2_with (at_builtin; refine append_str rfl _ _ rfl V.heap.size (.slice A' k c') ((onlyL M).take k) rfl ((HO.out.below HBJ.out).below (bel1 _ _)) _ x rfl ((Blk.new _ _ _).cell 0) (by rw [HN.out]; omega) (by simp; omega) ?_; intro A5 c5 w5 ho5 hb5 hg5; have hne : ∀ g, g < V.heap.size → some g ≠ (Value.slice A' k c').ownBlock := (fun g hg he => by have := (HO.out.lt g he.symm).1; omega); have f2 := ((HE2.out.below HBJ.out HE2.out.lt).alloc (.cells #[.string x] 9)).grown hg5 (hne _ (by omega)); have f1 := ((HE1.out.below HBJ.out HE1.out.lt).alloc (.cells #[.string x] 9)).grown hg5 (hne _ (by omega)); have s4 : w5.cell? ⟨w.heap.size + 1 + 1, 0, none⟩ = some (.slice A' k c') := f2.cell 0; have z4 := f2.frozen 0; rw [HN.out] at ho5 ⊢)
          have HO5 : Hid (Own w5 V.heap.size 9 (.slice A5 (k + 1) c5) (scells ((onlyL M).take (k + 1)))) := by
            show Own _ _ _ _ _
            rw [onlyL_take M k (by rw [HM.out.1]; exact hlt), ← HX.out]; exact ho5
          have HF1 := Lib.hid f1; have HF2 := Lib.hid f2
          have hz5 := hb5.size
          simp at hz5
          clear ho5 f1 f2
          go_roundw
          case rel =>
            refine ⟨k + 1, A5, c5, by go_num, by omega, HF2.out.set 0 _, HF1.out.far (by dsimp only; omega) _, HO5.out.far' _ _ (by dsimp only; omega), ?_, by simp; omega⟩
            exact ((hbw.alloc (by omega) _).trans (hb5.mono (by omega))).setCell (by dsimp only; omega) _
          case measure => simp [intOf]; omega
    · obtain rfl : k = ss.length := by omega
      have q2 : wr.cell? ⟨w.heap.size + 1 + 1, 0, none⟩ = some (.slice A' ss.length c') := e2.cell 0
      have q1 : wr.cell? ⟨w.heap.size + 1, 0, none⟩ = some (.slice none 0 0) := e1.cell 0
      have z1 := e1.frozen 0
      have HTK : Hid ((onlyL M).take ss.length = onlyL M) := List.take_of_length_le (by rw [HOL.out]; omega)
      rw [HTK.out] at ho
      have HO := Lib.hid ho; have HB := Lib.hid hb
      clear ho hb
      go_wp2
      refine bodyPost_ret (v := .agg #[.slice A' ss.length c']) (by simp [results, Tryd.results152, go_sem, q1]) rfl ⟨A', c', by rw [HOL.out], ?_, ?_⟩
      · rw [HOL.out]
        exact (HO.out.far' _ _ (by dsimp only; omega)).le (by omega)
      · exact HB.out.setCell (by dsimp only; omega) _
end Go.Proofs.YtadljglcbieifaaDoor
