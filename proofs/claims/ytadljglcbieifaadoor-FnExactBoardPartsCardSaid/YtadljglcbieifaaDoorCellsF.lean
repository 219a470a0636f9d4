/- The reference's cells as a new grid, its rows apart. Conditions: none. -/
import Derived.Test.YtadljglcbieifaaDoorCells
import Derived.Test.YtadljglcbieifaaDoorFresh
namespace Go.Proofs.YtadljglcbieifaaDoor
open Go.RowKit
set_option linter.unusedVariables false

/-- v is a new slice of new rows of bools. -/
def FrB (w : World) (lo : Nat) (v : Value) (bss : List (List Bool)) : Prop := FrR w lo 156 4 v (bss.map bools)
theorem FrB.nil {w : World} {lo : Nat} {v : Value} (h : Own w lo 156 v []) : FrB w lo v [] := FrR.nil h
set_option maxHeartbeats 1600000 in
theorem cellsF_any (A : Option Addr) (c : Nat) (ss : List ByteArray) (w : World) (B : Nat) (hB : B ≤ w.heap.size) (h : Rd w B A c (scells ss)) (hsz : Hid (Short ss)) (hn : ss.length ≤ 1048576) :
    Calls Tryd.prog 145 #[.agg #[.slice A ss.length c]] w fun e w' => ∃ A' c', e = .returned (.slice A' ss.length c') ∧ FrB w' w.heap.size (.slice A' ss.length c') (brows ss) ∧ Below w.heap.size w w' := by
  have h1 := h.len
  have h2 := h.max
  rw [scells_len] at h1
  go_enter Tryd.func145, Tryd.ntmps145
  go_wp2
  obtain ⟨W, hW⟩ : ∃ W, W = w.alloc (.cells #[.slice A ss.length c] 60) := ⟨_, rfl⟩
  have hAW : Below w.heap.size w W := by rw [hW]; exact bel1 _ _
  have hzW : W.heap.size = w.heap.size + 1 := by rw [hW]; simp
  have c0W : W.cell? ⟨w.heap.size, 0, none⟩ = some (.slice A ss.length c) := by rw [hW]; simp [go_sem]
  have hoW : FrB (W.alloc (.cells #[] 156)) W.heap.size (.slice (some ⟨W.heap.size, 0, none⟩) 0 0) [] := FrB.nil (Own.empty W 156 _ _ (Nat.le_refl _))
  have hoW : FrB (W.alloc (.cells #[] 156)) W.heap.size (.slice (some ⟨w.heap.size + 1, 0, none⟩) 0 0) [] := by rw [← hzW]; exact hoW
  have HQ : Hid (∀ w', Below W.heap.size W w' → w'.cell? ⟨w.heap.size, 0, none⟩ = some (.slice A ss.length c) ∧ Rd w' w.heap.size A c (scells ss)) := fun w' hb =>
    ⟨(hb.cell (p := ⟨w.heap.size, 0, none⟩) (by show w.heap.size < _; omega)).trans c0W, (h.below (hAW.trans (hb.mono (by omega))) hB).more hB⟩
  have hbW : Below W.heap.size W (W.alloc (.cells #[] 156)) := bel1 _ _
  rw [← hW]
  have HZ := Lib.hid hzW
  clear hW c0W hzW
  have hzW : w.heap.size < W.heap.size := by have := HZ.out; omega
  go_loopw [3, 4, 5, 6] (fun v i x y wr => ∃ (k : Nat) (A' : Option Addr) (c' : Nat), i = .int .i64 k ∧ k ≤ ss.length ∧ v = .slice A' k c' ∧ FrB wr W.heap.size (.slice A' k c') ((brows ss).take k) ∧ Below W.heap.size W wr) (fun _ i _ _ _ => ss.length - (intOf i).toNat)
  case atStart => exact ⟨0, _, _, rfl, by omega, rfl, hoW, hbW⟩
  case round =>
    clear hoW hbW
    obtain ⟨k, A', c', rfl, hk, rfl, ho, hb⟩ := hrel
    obtain ⟨q0, hrd⟩ := HQ.out _ hb
    have hzr := hb.size
    obtain ⟨wo, rfl⟩ : ∃ wo : World, wo = wr := ⟨_, rfl⟩
    by_cases hlt : k < ss.length
    · have HO := Lib.hid ho; clear ho
      obtain ⟨b, o, rfl, hbB, hc⟩ := hrd.at (j := k) (by rw [scells_len]; exact hlt)
      have HC : Hid (∀ w', Below wo.heap.size wo w' → w'.cell? ⟨w.heap.size, 0, none⟩ = some (.slice (some ⟨b, o, none⟩) ss.length c) ∧ w'.cell? ⟨b, o + k, none⟩ = some (.string (gs ss k))) := fun w' hb' =>
        ⟨(hb'.cell (p := ⟨w.heap.size, 0, none⟩) (by show w.heap.size < _; omega)).trans q0, (hb'.cell (p := ⟨b, o + k, none⟩) (by show b < _; omega)).trans (hc k _ (gs_at ss k hlt))⟩
      have hszk := hsz.out k hlt
      clear hc hrd
      go_wp2
      go_loopw [5, 6] (fun x y wr => ∃ (j : Nat) (A2 : Option Addr) (c2 : Nat), y = .int .i64 j ∧ j ≤ (gs ss k).size ∧ x = .slice A2 j c2 ∧ Own wr wo.heap.size 4 (.slice A2 j c2) (bools ((brow (gs ss k)).take j)) ∧ Below wo.heap.size wo wr) (fun _ y _ => (gs ss k).size - (intOf y).toNat)
      case atStart => exact ⟨0, _, _, rfl, by omega, rfl, Own.empty wo 4 _ _ (Nat.le_refl _), bel1 _ _⟩
      case round =>
        obtain ⟨j, A2, c2, rfl, hj, rfl, ho, hbj⟩ := hrel
        obtain ⟨q0, qk⟩ := HC.out _ hbj
        have hzj := hbj.size
        by_cases hjl : j < (gs ss k).size
        · have HL : Hid (((brow (gs ss k)).take j).length = j) := by show _ = _; rw [List.length_take, brow_len]; omega
          have HT := Lib.hid (brow_take (gs ss k) j hjl)
          obtain ⟨u, hu⟩ : ∃ u, u = ((gs ss k)[j] == 46) := ⟨_, rfl⟩
          have hcmp : (((gs ss k)[j].toNat : Int) == 46) = u := by
            rw [hu]
            by_cases c1 : (gs ss k)[j] = 46
            · rw [beq_t 46 rfl c1, c1]; rfl
            · rw [beq_f 46 rfl c1]; simp [c1]
          have HU := Lib.hid hu; clear hu
          go_wp2_with (at_builtin; refine append_bool rfl _ _ rfl wo.heap.size _ ((brow (gs ss k)).take j) rfl (ho.below ((Below.refl _ _).alloc (Nat.le_refl _) _)) _ u rfl ((Blk.new _ _ _).cell 0) (by rw [HL.out]; omega) (by simp; omega) ?_; intro A3 c3 w3 ho3 hb3 hg3; rw [HL.out] at ho3 ⊢)
          go_roundw
          case rel => exact ⟨j + 1, A3, c3, by go_num, by omega, rfl, by rw [HT.out, ← HU.out]; exact ho3, (hbj.alloc hzj _).trans hb3⟩
          case measure => simp [intOf]; omega
        · obtain rfl : j = (gs ss k).size := by omega
          have HE : Hid ((brow (gs ss k)).take (gs ss k).size = brow (gs ss k)) := List.take_of_length_le (by rw [brow_len]; omega)
          rw [HE.out] at ho
          have HWO := Lib.hid hzr
          have HOO := Lib.hid ho
          clear ho
          obtain ⟨cs, k1, k2, k3⟩ := HO.out
          have HK : Hid (cs.length = k) := by show _ = _; rw [k2.1, List.length_map, List.length_take, brows, List.length_map]; omega
          have HK3 := Lib.hid (And.intro k1 (And.intro k2 k3))
          have hvb := fun g hg => (k1.lt g hg).2
          have HVB := Lib.hid hvb
          have k1' := (k1.below hbj)
          clear k2 k3 hvb k1
          go_wp2_with (at_builtin; refine wpList_append_at rfl _ _ 154 156 (.slice none 0 0) 24 rfl Tryd.underlying154 infoBoolS rfl (by omega) W.heap.size _ cs rfl (k1'.below (bel1 _ _)) _ _ _ _ [.slice A2 (gs ss k).size c2] rfl rfl (Rd.of_blk (Blk.new _ _ _) (Nat.lt_succ_self _)) (fun u hu => by simp at hu; subst hu; rfl) (by rw [HK.out]; simp; omega) (by simp; omega) ?_; intro A4 c4 w4 ho4 hb4 hg4 hp4; rw [HK.out] at ho4 hp4 ⊢)
          have HP : Hid (FrB w4 W.heap.size (.slice A4 (k + 1) c4) ((brows ss).take (k + 1))) := by
            show FrB _ _ _ _
            rw [brows_take ss k hlt]
            unfold FrB
            show FrR _ _ _ _ _ _
            rw [List.map_append]
            exact FrR.push (w := wo) (w1 := wr) (w2 := wr.alloc (.cells #[.slice A2 (gs ss k).size c2] 156)) HK3.out HWO.out hbj HOO.out (bel1 _ _) ho4 hg4 hp4
          clear ho4 hg4 hp4 k1'
          go_wp2
          go_roundw
          case rel => exact ⟨k + 1, A4, c4, by go_num, by omega, rfl, HP.out, (hb.trans ((hbj.alloc hzj _).mono hzr)).trans hb4⟩
          case measure => simp [intOf]; omega
    · obtain rfl : k = ss.length := by omega
      have HE : Hid ((brows ss).take ss.length = brows ss) := List.take_of_length_le (by simp [brows])
      rw [HE.out] at ho
      have HO := Lib.hid ho; clear ho
      clear hrd
      go_wp2
      go_ret
      exact ⟨_, _, rfl, HO.out.le (by omega), hAW.trans (hb.mono (by omega))⟩

end Go.Proofs.YtadljglcbieifaaDoor
