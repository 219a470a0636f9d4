/- MirrorBoard of the program and of the reference, by contracts. Conditions: none. -/
import Derived.Test.YtjhfnjgeikeajaaDoorCells2
import Derived.Test.YtjhfnjgeikeajaaDoorMarkB
import Derived.Test.YtjhfnjgeikeajaaDoorTurn
namespace Go.Proofs.YtjhfnjgeikeajaaDoor
open Go.RowKit
set_option linter.unusedVariables false

def revS (r : ByteArray) : ByteArray := str r.data.toList.reverse
def resMirrorBoard (ss : List ByteArray) : List ByteArray := if boardB ss = true then ss.map revS else []
theorem resMirrorBoard_le (ss : List ByteArray) : (resMirrorBoard ss).length ≤ 8 := by
  unfold resMirrorBoard
  split
  · rename_i h; rw [List.length_map]; exact (boardB_of h).1.2
  · simp
theorem own_none (w : World) (E : TypeId) (base : Nat) : Own w base E (.slice none 0 0) [] := ⟨rfl, .inl ⟨rfl, rfl⟩⟩
theorem map_step (ss : List ByteArray) (f : ByteArray → ByteArray) (k : Nat) (h : k < ss.length) : (ss.take (k + 1)).map f = (ss.take k).map f ++ [f (gs ss k)] := by
  rw [List.take_succ_eq_append_getElem h, List.map_append, gs_lt h]; rfl

set_option maxRecDepth 100000 in
set_option maxHeartbeats 1600000 in
theorem MirrorBoardI_any (A : Option Addr) (c : Nat) (ss : List ByteArray) (w : World) (B : Nat) (hB : B ≤ w.heap.size) (h : Rd w B A c (scells ss)) (hsz : Hid (Short ss)) (hn : ss.length ≤ 1048576) :
    Calls Tryd.prog 46 #[.agg #[.slice A ss.length c]] w (RetBB w (resMirrorBoard ss) (boardB ss)) := by
  have h1 := h.len
  have h2 := h.max
  rw [scells_len] at h1
  go_enter Tryd.func46, Tryd.ntmps46
  go_wp2_with fail
  obtain ⟨W, hW⟩ : ∃ W, W = (w.alloc (.cells #[.slice A ss.length c] 31)).alloc (.cells #[.slice none 0 0] 31) := ⟨_, rfl⟩
  have e0 : Blk W w.heap.size 31 #[.slice A ss.length c] := by rw [hW]; exact (Blk.new w _ _).alloc _
  have e1 : Blk W (w.heap.size + 1) 31 #[.slice none 0 0] := by rw [hW]; exact Blk.new_at (w.alloc _) _ _ (by simp)
  have hAW : Below w.heap.size w W := by rw [hW]; exact bel2 _ _ _
  have hzW : w.heap.size + 2 ≤ W.heap.size := by rw [hW]; simp
  rw [← hW]
  clear hW
  have hrW := h.below hAW hB
  cases hg : boardB ss
  · have HT : Hid (resMirrorBoard ss = []) := by show _ = _; rw [resMirrorBoard, hg]; rfl
    refine (goodBoardI_any A c ss W B (by omega) hrW hsz).mono ?_; rintro e w1 ⟨rfl, hb1⟩
    have f1 := e1.below hb1 e1.lt
    have q10 : w1.cell? ⟨w.heap.size + 1, 0, none⟩ = some (.slice none 0 0) := f1.cell 0
    have z10 := f1.frozen 0
    go_wp2
    refine bodyPost_ret (v := .tuple #[.agg #[.slice none 0 0], .bool false]) (by simp [results, Tryd.results46, go_sem, q10]) rfl ⟨none, 0, by rw [HT.out, hg]; rfl, by rw [HT.out]; exact own_none _ _ _, ?_⟩
    exact (gtr hAW hb1).setCell (by dsimp only; omega) _
  · have HT : Hid (resMirrorBoard ss = ss.map revS) := by show _ = _; rw [resMirrorBoard, if_pos hg]
    have hl8 : ss.length ≤ 8 := (boardB_of hg).1.2
    refine (goodBoardI_any A c ss W B (by omega) hrW hsz).mono ?_; rintro e w1 ⟨rfl, hb1⟩
    have f0 := e0.below hb1 e0.lt
    have q00 : w1.cell? ⟨w.heap.size, 0, none⟩ = some (.slice A ss.length c) := f0.cell 0
    have hz1 := hb1.size
    have q0a : ∀ o', (w1.alloc o').cell? ⟨w.heap.size, 0, none⟩ = some (.slice A ss.length c) := fun o' => (f0.alloc o').cell 0
    go_wp2
    clear q0a
    obtain ⟨V, hV⟩ : ∃ V, V = w1.alloc (.cells #[.slice none 0 0] 31) := ⟨_, rfl⟩
    have k1 : Blk V (w.heap.size + 1) 31 #[.slice none 0 0] := by rw [hV]; exact (e1.below hb1 e1.lt).alloc _
    have k0 : Blk V w.heap.size 31 #[.slice A ss.length c] := by rw [hV]; exact f0.alloc _
    have k4 : Blk V w1.heap.size 31 #[.slice none 0 0] := by rw [hV]; exact Blk.new _ _ _
    have hbV : Below w.heap.size w V := by rw [hV]; exact (gtr hAW hb1).alloc (by omega) _
    have hzV : w1.heap.size < V.heap.size := by rw [hV]; simp
    rw [← hV]
    clear hV q00 f0 e0 e1
    go_loopw [6, 15] (fun x i wr => ∃ (k : Nat) (A' : Option Addr) (c' : Nat), i = .int .i64 k ∧ k ≤ ss.length ∧ Blk wr w1.heap.size 31 #[.slice A' k c'] ∧ Blk wr (w.heap.size + 1) 31 #[.slice none 0 0] ∧ Own wr V.heap.size 9 (.slice A' k c') (scells ((ss.take k).map revS)) ∧ Below w.heap.size w wr ∧ V.heap.size ≤ wr.heap.size) (fun _ i _ => ss.length - (intOf i).toNat)
    case atStart => exact ⟨0, none, 0, rfl, by omega, k4, k1, own_none _ _ _, hbV, Nat.le_refl _⟩
    case round =>
      clear k0 k1 k4 hbV
      obtain ⟨k, A', c', rfl, hk, e4, e1, ho, hb, hzr⟩ := hrel
      have hr := h.below hb hB
      by_cases hlt : k < ss.length
      · obtain ⟨b, o, rfl, hbB, hc⟩ := hr.at (j := k) (by rw [scells_len]; exact hlt)
        have hck := hc k _ (gs_at ss k hlt)
        have hszk : (gs ss k).size ≤ 8 := by have := (boardB_of hg).2.2 k hlt; have := (boardB_of hg).2.1; omega
        clear hc
        have q4 : wr.cell? ⟨w1.heap.size, 0, none⟩ = some (.slice A' k c') := e4.cell 0
        have z4 := e4.frozen 0
        have HO := Lib.hid ho; clear ho
        have HN : Hid ((scells ((ss.take k).map revS)).length = k) := by show _ = _; rw [scells_len, List.length_map, List.length_take]; omega
        have HE4 := Lib.hid e4; have HE1 := Lib.hid e1; clear e4 e1
        obtain ⟨x, hx⟩ : ∃ x, x = revS (gs ss k) := ⟨_, rfl⟩
        have hrev : ∀ w0, Calls Tryd.prog 57 #[.string (gs ss k)] w0 fun e w' => e = .returned (.string x) ∧ Below w0.heap.size w0 w' := fun w0 => by rw [hx]; exact reversed_any _ w0 (by omega)
        have HREV := Lib.hid hrev; have HX := Lib.hid hx; clear hrev hx
        have E5 : Hid ((scells ((ss.take k).map revS)).length + [Value.string x].length = k + 1) := by show _ = _; rw [HN.out]; rfl
        go_wp2
        go_region_law
          (first
            | (go_simp; go_at_call 57; refine (HREV.out _).mono ?_; rintro e w2 ⟨rfl, hb2⟩; have f4 := HE4.out.below (gtr (gdrew (a := wr)) hb2) HE4.out.lt; have s4 : w2.cell? ⟨w1.heap.size, 0, none⟩ = some (.slice A' k c') := f4.cell 0; have s4a : ∀ o', (w2.alloc o').cell? ⟨w1.heap.size, 0, none⟩ = some (.slice A' k c') := fun o' => (f4.alloc o').cell 0)
            | (refine step_append_rd (by rfl) (.tmp 20) (.tmp 23) 26 9 (.string ByteArray.empty) 16 (by rfl) Tryd.underlying26 infoStr rfl (by omega) V.heap.size (.slice A' k c') (scells ((ss.take k).map revS)) (by rfl) ((HO.out.below (gtr (gdrew (a := wr)) hb2)).below (bel1 _ _)) _ _ 1 1 [.string x] (by rfl) rfl (Rd.of_blk (Blk.new _ _ _) (Nat.lt_succ_self _)) (fun u hu => by simp at hu; subst hu; rfl) (by rw [HN.out]; simp; omega) (by have := hb2.size; have : wr.heap.size ≤ w2.heap.size := this; simp; omega) ?_; intro A5 c5 w5 ho5 hb5 hg5; have hne : ∀ g, g < V.heap.size → some g ≠ (Value.slice A' k c').ownBlock := (fun g hg he => by have := (HO.out.lt g he.symm).1; omega); have f5 := (f4.alloc (.cells #[.string x] 9)).grown hg5 (hne _ hzV); have f1 := ((HE1.out.below (gtr (gdrew (a := wr)) hb2) HE1.out.lt).alloc (.cells #[.string x] 9)).grown hg5 (hne _ (by omega)); have s5 : w5.cell? ⟨w1.heap.size, 0, none⟩ = some (.slice A' k c') := f5.cell 0; have z5 := f5.frozen 0; rw [E5.out] at ho5 ⊢))
        all_goals
          have HO5 : Hid (Own w5 V.heap.size 9 (.slice A5 (k + 1) c5) (scells ((ss.take (k + 1)).map revS))) := by
            show Own _ _ _ _ _
            rw [map_step ss revS k hlt, ← HX.out]
            have e : scells ((ss.take k).map revS ++ [x]) = scells ((ss.take k).map revS) ++ [.string x] := scells_snoc _ _
            rw [e]; exact ho5
          clear ho5
          go_wp2
          go_roundw
          case rel =>
            have hz2 : wr.heap.size ≤ w2.heap.size := hb2.size
            have hz5 := hb5.size
            simp at hz5
            refine ⟨k + 1, A5, c5, by go_num, by omega, f5.set 0 _, f1.far (by dsimp only; omega) _, HO5.out.far' _ _ (by dsimp only; omega), ?_, by simp; omega⟩
            exact (((gtr hb (gtr (gdrew (a := wr)) hb2)).alloc (by omega) _).trans (hb5.mono (by omega))).setCell (by dsimp only; omega) _
          case measure => simp [intOf]; omega
      · obtain rfl : k = ss.length := by omega
        have q1 : wr.cell? ⟨w.heap.size + 1, 0, none⟩ = some (.slice none 0 0) := e1.cell 0
        have z1 := e1.frozen 0
        have q4 : wr.cell? ⟨w1.heap.size, 0, none⟩ = some (.slice A' ss.length c') := e4.cell 0
        rw [List.take_length] at ho
        have HO := Lib.hid ho; clear ho
        have HL : Hid ((ss.map revS).length = ss.length) := List.length_map _
        go_wp2
        refine bodyPost_ret (v := .tuple #[.agg #[.slice A' ss.length c'], .bool true]) (by simp [results, Tryd.results46, go_sem, q1]) rfl ⟨A', c', by rw [HT.out, HL.out, hg], ?_, ?_⟩
        · rw [HT.out, HL.out]
          exact (HO.out.far' _ _ (by dsimp only; omega)).le (by omega)
        · exact hb.setCell (by dsimp only; omega) _

/-- A row of bools is put in the place of another. -/
theorem RwB.put {w : World} {lo g i n c ci : Nat} {bss : List (List Bool)} {Ai : Option Addr} {bs : List Bool} (h : RwB w lo (.slice (some ⟨g, 0, none⟩) n c) bss) (hi : i < bss.length)
    (hr : Rd w w.heap.size Ai ci (bools bs)) (hne : ∀ a, Ai = some a → a.block < w.heap.size ∧ a.block ≠ g) : RwB (w.setCell ⟨g, i, none⟩ (.slice Ai bs.length ci)) lo (.slice (some ⟨g, 0, none⟩) n c) (bss.set i bs) := by
  obtain ⟨cs, h1, h2, h3⟩ := h
  have hkeep : ∀ (Aj : Option Addr) (cj : Nat) (xs : List Value), Rd w w.heap.size Aj cj xs → (∀ a, Aj = some a → a.block ≠ g) → Rd (w.setCell ⟨g, i, none⟩ (.slice Ai bs.length ci)) (w.setCell ⟨g, i, none⟩ (.slice Ai bs.length ci)).heap.size Aj cj xs := by
    intro Aj cj xs hx hn
    refine ⟨hx.1, hx.2.1, hx.2.2.1, fun j hj => ?_⟩
    obtain ⟨b, o, hA, hbl, hc⟩ := hx.2.2.2 j hj
    refine ⟨b, o, hA, by simpa using hbl, fun t u ht => ?_⟩
    have hbg : b ≠ g := hn _ hA
    exact (World.cell?_of_block (w := w) (a := ⟨b, o + t, none⟩) (Below.heap_setCell w _ _ _ hbg)).trans (hc t u ht)
  have hn1 := h1.len
  have h1' : w.ownsRow lo 70 1 (.slice (some ⟨g, 0, none⟩) n c) n cs := by
    have := h1
    unfold Own at this
    rw [← hn1] at this
    exact this
  have hs := (h1'.stored i (.slice Ai bs.length ci)).1
  refine ⟨cs.set i (.slice Ai bs.length ci), ?_, by rw [List.length_set, List.length_set, h2], fun j hj => ?_⟩
  · unfold Own
    rw [List.length_set, ← hn1]
    exact hs
  · rw [List.length_set] at hj
    have hgz : ∀ a, Ai = some a → a.block < (w.setCell ⟨g, i, none⟩ (.slice Ai bs.length ci)).heap.size ∧ (Value.slice (some ⟨g, 0, none⟩) n c).ownBlock ≠ some a.block := fun a ha => ⟨by simpa using (hne a ha).1, fun e => by injection e with e; exact (hne a ha).2 e.symm⟩
    by_cases hij : i = j
    · subst hij
      have e : gb (bss.set i bs) i = bs := by simp [gb, hi]
      rw [e]
      exact ⟨Ai, ci, by rw [List.getElem?_set_self (by omega)], hkeep _ _ _ hr fun a ha => (hne a ha).2, hgz⟩
    · have e : gb (bss.set i bs) j = gb bss j := by simp [gb, List.getElem?_set_ne hij]
      rw [e]
      obtain ⟨Aj, cj, k1, k2, k3⟩ := h3 j hj
      exact ⟨Aj, cj, by rw [List.getElem?_set_ne hij]; exact k1, hkeep _ _ _ k2 fun a ha he => (k3 a ha).2 (by rw [he]; rfl), fun a ha => ⟨by simpa using (k3 a ha).1, (k3 a ha).2⟩⟩
/-- The first k rows reversed. -/
def revB (bss : List (List Bool)) (k : Nat) : List (List Bool) := (bss.take k).map List.reverse ++ bss.drop k
theorem revB_len (bss : List (List Bool)) (k : Nat) : (revB bss k).length = bss.length := by simp [revB]; omega
theorem gb_revB (bss : List (List Bool)) (k : Nat) (h : k < bss.length) : gb (revB bss k) k = gb bss k := by
  have hl : ((bss.take k).map List.reverse).length = k := by rw [List.length_map, List.length_take]; omega
  unfold gb revB
  rw [List.getD_eq_getElem?_getD, List.getElem?_append_right (by omega), hl, Nat.sub_self, List.getElem?_drop, Nat.add_zero, ← List.getD_eq_getElem?_getD]
theorem revB_step (bss : List (List Bool)) (k : Nat) (h : k < bss.length) : (revB bss k).set k (gb bss k).reverse = revB bss (k + 1) := by
  have hl : ((bss.take k).map List.reverse).length = k := by rw [List.length_map, List.length_take]; omega
  unfold revB
  rw [List.set_append_right _ _ (by omega), hl, Nat.sub_self, List.drop_eq_getElem_cons h, List.set_cons_zero, List.take_succ_eq_append_getElem h, List.map_append, gb_lt h]
  simp
theorem btext_brow {r : ByteArray} (h : allIn [46, 35] r = true) : btext (brow r) = r := by
  refine (str_of r ?_).symm
  unfold brow
  rw [List.map_map]
  unfold allIn at h
  rw [List.all_eq_true] at h
  conv => lhs; rw [← List.map_id r.data.toList]
  refine List.map_congr_left fun b hb => ?_
  have := h b hb
  simp at this
  rcases this with rfl | rfl <;> rfl
theorem btext_rev {r : ByteArray} (h : allIn [46, 35] r = true) : btext (brow r).reverse = revS r := by
  have e : (btext (brow r).reverse).data.toList = (btext (brow r)).data.toList.reverse := by
    unfold btext
    rw [str_data, str_data, List.map_reverse]
  rw [btext_brow h] at e
  exact str_of _ e

set_option maxHeartbeats 1600000 in
theorem MirrorBoardS_any (A : Option Addr) (c : Nat) (ss : List ByteArray) (w : World) (B : Nat) (hB : B ≤ w.heap.size) (h : Rd w B A c (scells ss)) (hsz : Hid (Short ss)) (hn : ss.length ≤ 1048576) :
    Calls Tryd.prog 45 #[.agg #[.slice A ss.length c]] w (RetBB w (resMirrorBoard ss) (boardB ss)) := by
  have h1 := h.len
  have h2 := h.max
  rw [scells_len] at h1
  go_enter Tryd.func45, Tryd.ntmps45
  go_wp2_with fail
  obtain ⟨W, hW⟩ : ∃ W, W = (w.alloc (.cells #[.slice A ss.length c] 31)).alloc (.cells #[.slice none 0 0] 31) := ⟨_, rfl⟩
  have e0 : Blk W w.heap.size 31 #[.slice A ss.length c] := by rw [hW]; exact (Blk.new w _ _).alloc _
  have e1 : Blk W (w.heap.size + 1) 31 #[.slice none 0 0] := by rw [hW]; exact Blk.new_at (w.alloc _) _ _ (by simp)
  have hAW : Below w.heap.size w W := by rw [hW]; exact bel2 _ _ _
  have hzW : w.heap.size + 2 ≤ W.heap.size := by rw [hW]; simp
  rw [← hW]
  clear hW
  have hrW := h.below hAW hB
  cases hg : boardB ss
  · have HT : Hid (resMirrorBoard ss = []) := by show _ = _; rw [resMirrorBoard, hg]; rfl
    refine (goodBoardS_any A c ss W B (by omega) hrW hsz).mono ?_; rintro e w1 ⟨rfl, hb1⟩
    have f1 := e1.below hb1 e1.lt
    have q10 : w1.cell? ⟨w.heap.size + 1, 0, none⟩ = some (.slice none 0 0) := f1.cell 0
    have z10 := f1.frozen 0
    go_wp2
    refine bodyPost_ret (v := .tuple #[.agg #[.slice none 0 0], .bool false]) (by simp [results, Tryd.results45, go_sem, q10]) rfl ⟨none, 0, by rw [HT.out, hg]; rfl, by rw [HT.out]; exact own_none _ _ _, ?_⟩
    exact (gtr hAW hb1).setCell (by dsimp only; omega) _
  · have HT : Hid (resMirrorBoard ss = ss.map revS) := by show _ = _; rw [resMirrorBoard, if_pos hg]
    have HBP := Lib.hid (boardB_of hg)
    have hl8 : ss.length ≤ 8 := HBP.out.1.2
    refine (goodBoardS_any A c ss W B (by omega) hrW hsz).mono ?_; rintro e w1 ⟨rfl, hb1⟩
    have f0 := e0.below hb1 e0.lt
    have q00 : w1.cell? ⟨w.heap.size, 0, none⟩ = some (.slice A ss.length c) := f0.cell 0
    have hz1 := hb1.size
    go_wp2_with fail
    refine (cells_any A c ss w1 B (by omega) (hrW.below hb1 (by omega)) hsz hn).mono ?_; rintro e w2 ⟨A2, c2, rfl, ho2, hb2⟩
    have f1 := (e1.below hb1 e1.lt).below hb2 (by have := e1.lt; omega)
    have hbw2 : Below w.heap.size w w2 := gtr (gtr hAW hb1) hb2
    have hz2 := hb2.size
    obtain ⟨bss, hbs⟩ : ∃ bss, bss = brows ss := ⟨_, rfl⟩
    have hbl : bss.length = ss.length := by rw [hbs]; simp [brows]
    rw [← hbs] at ho2
    have HBS := Lib.hid hbs; have HBL := Lib.hid hbl; clear hbs
    have hpos : 0 < bss.length := by have := HBP.out.1.1; omega
    obtain ⟨g, rfl, hgl, hgz, -, hgc, hgm, -⟩ := ho2.at (j := 0) hpos
    have HROW : Hid (∀ i, i < bss.length → (gb bss i).length ≤ 8) := by
      intro i hi
      rw [HBS.out] at hi ⊢
      have hi' : i < ss.length := by simpa [brows] using hi
      have e : gb (brows ss) i = brow (gs ss i) := by simp [gb, brows, gs, hi']
      rw [e, brow_len]
      have := (HBP.out.2.2 i hi').1
      have := HBP.out.2.1.2
      omega
    clear hbl
    go_wp2
    go_loopw [5, 6, 7] (fun i x y wr => ∃ k : Nat, i = .int .i64 k ∧ k ≤ ss.length ∧ RwB wr w1.heap.size (.slice (some ⟨g, 0, none⟩) ss.length c2) (revB bss k) ∧ Blk wr (w.heap.size + 1) 31 #[.slice none 0 0] ∧ Below w.heap.size w wr ∧ w2.heap.size ≤ wr.heap.size) (fun i _ _ _ => ss.length - (intOf i).toNat)
    case atStart => exact ⟨0, rfl, by omega, by simpa [revB] using ho2, f1, hbw2, Nat.le_refl _⟩
    case round =>
      clear ho2 f1 hbw2
      obtain ⟨k, rfl, hk, ho, e1, hb, hzr⟩ := hrel
      obtain ⟨wo, rfl⟩ : ∃ wo : World, wo = wr := ⟨_, rfl⟩
      by_cases hlt : k < ss.length
      · have hltb : k < bss.length := by have := HBL.out; omega
        have hrow := HROW.out k hltb
        have hltr : k < (revB bss k).length := by rw [revB_len]; exact hltb
        obtain ⟨g', hA', -, hgz', -, -, -, hcell⟩ := ho.at hltr
        injection hA' with hA'
        injection hA' with hA' _ _
        subst hA'
        obtain ⟨Ak, ck, qk, rk⟩ := hcell k hltr
        rw [gb_revB bss k hltb] at qk rk
        clear hcell
        have HO := Lib.hid ho; have HE1 := Lib.hid e1; clear ho e1
        have hlk := rk.len
        have hmx := rk.max
        rw [bools_len] at hlk
        have HC : Hid (∀ w', Below wo.heap.size wo w' → w'.cell? ⟨g, k, none⟩ = some (.slice Ak (gb bss k).length ck) ∧ Rd w' wo.heap.size Ak ck (bools (gb bss k))) := fun w' hb' =>
          ⟨(hb'.cell (p := ⟨g, k, none⟩) (by show g < _; omega)).trans qk, rk.below hb' (Nat.le_refl _)⟩
        have HCA := Lib.hid (HC.out _ (bel1 wo (.cells #[] 4)))
        have qk2 := HCA.out.1
        go_wp2
        go_loopw [6, 7] (fun v y wr => ∃ (m : Int) (j : Nat) (A3 : Option Addr) (c3 : Nat), y = .int .i64 m ∧ m + 1 = j ∧ j ≤ (gb bss k).length ∧ v = .slice A3 ((gb bss k).length - j) c3 ∧ Own wr wo.heap.size 4 (.slice A3 ((gb bss k).length - j) c3) (bools ((gb bss k).drop j).reverse) ∧ Below wo.heap.size wo wr) (fun _ y _ => ((match y with | .int _ m => m | _ => 0) + 1).toNat)
        case atStart =>
          refine ⟨((gb bss k).length : Int) - 1, (gb bss k).length, _, _, rfl, by omega, by omega, by rw [Nat.sub_self], ?_, bel1 _ _⟩
          rw [List.drop_length, Nat.sub_self]
          exact Own.empty wo 4 _ _ (Nat.le_refl _)
        case round =>
          clear qk2
          obtain ⟨m, j, A3, c3, rfl, hmj, hj, rfl, ho3, hb3⟩ := hrel
          obtain ⟨qk3, rk3⟩ := HC.out _ hb3
          have hz3 := hb3.size
          cases j with
          | zero =>
            obtain rfl : m = -1 := by omega
            rw [List.drop_zero, Nat.sub_zero] at ho3
            have HL : Hid (((gb bss k).reverse).length = (gb bss k).length) := List.length_reverse
            have HPUT : Hid (∀ w', w' = wr.setCell ⟨g, k, none⟩ (.slice A3 (gb bss k).length c3) → RwB w' w1.heap.size (.slice (some ⟨g, 0, none⟩) ss.length c2) (revB bss (k + 1))) := by
              intro w' hw'
              have hp := RwB.put (i := k) (Ai := A3) (ci := c3) (bs := (gb bss k).reverse) (HO.out.below hb3) hltr (by rw [← HL.out] at ho3; exact ho3.rd) fun a ha => by
                subst ha
                have := ho3.lt a.block rfl
                exact ⟨this.2, by omega⟩
              rw [HL.out, revB_step bss k hltb] at hp
              rw [hw']; exact hp
            have hfr : wr.frozen? ⟨g, k, none⟩ = false := by
              obtain ⟨cs, k1, k2, _⟩ := HO.out.below hb3
              obtain ⟨g2, hA2, _, _, _, _, hf⟩ := k1.at (by omega)
              injection hA2 with hA2
              injection hA2 with hA2 _ _
              subst hA2
              exact hf k
            have HO3 := Lib.hid ho3; clear ho3
            rw [Nat.sub_zero]
            go_wp2
            go_roundw
            case rel => exact ⟨k + 1, by go_num, by omega, HPUT.out _ rfl, (HE1.out.below hb3 HE1.out.lt).far (by dsimp only; omega) _, (gtr hb hb3).setCell (by dsimp only; omega) _, by simp; omega⟩
            case measure => simp [intOf]; omega
          | succ j =>
            obtain rfl : m = (j : Int) := by omega
            have hjl : j < (gb bss k).length := by omega
            obtain ⟨b4, o4, rfl, hb4, hc4⟩ := rk3.at (j := j) (by rw [bools_len]; exact hjl)
            have q4 := hc4 j _ (bools_at _ j hjl)
            rw [gbit hjl] at q4
            clear hc4
            obtain ⟨u, hu⟩ : ∃ u, u = (gb bss k)[j] := ⟨_, rfl⟩
            rw [← hu] at q4
            have HL : Hid (((gb bss k).drop (j + 1)).reverse.length + 1 = (gb bss k).length - j) := by show _ = _; rw [List.length_reverse, List.length_drop]; omega
            have HD : Hid (((gb bss k).drop (j + 1)).reverse ++ [u] = ((gb bss k).drop j).reverse) := by show _ = _; rw [List.drop_eq_getElem_cons hjl, List.reverse_cons, hu]
            clear hu
            go_wp2_with (at_builtin; refine append_bool rfl _ _ rfl wo.heap.size _ ((gb bss k).drop (j + 1)).reverse rfl (ho3.below ((Below.refl _ _).alloc (Nat.le_refl _) _)) _ u rfl ((Blk.new _ _ _).cell 0) (by have := HL.out; omega) (by simp; omega) ?_; intro A5 c5 w5 ho5 hb5 hg5; rw [HL.out, HD.out] at ho5; rw [HL.out])
            have HO5 := Lib.hid ho5; clear ho5
            go_roundw
            case rel => exact ⟨(j : Int) - 1, j, A5, c5, rfl, by omega, by omega, rfl, HO5.out, (hb3.alloc hz3 _).trans hb5⟩
            case measure => simp
      · obtain rfl : k = ss.length := by omega
        have HRE : Hid (revB bss ss.length = bss.map List.reverse) := by show _ = _; rw [revB, ← HBL.out, List.take_length, List.drop_length, List.append_nil]
        rw [HRE.out] at ho
        have HL : Hid ((bss.map List.reverse).length = ss.length) := by show _ = _; rw [List.length_map, HBL.out]
        have hbd := board_any (some ⟨g, 0, none⟩) c2 (bss.map List.reverse) wo wo.heap.size (Nat.le_refl _) ho.rd (by have := HL.out; omega) (by
          intro i hi
          rw [List.length_map] at hi
          have e : gb (bss.map List.reverse) i = (gb bss i).reverse := by simp [gb, hi]
          rw [e, List.length_reverse]
          have := HROW.out i hi
          omega)
        rw [HL.out] at hbd
        have HBD := Lib.hid hbd; clear hbd ho
        have HRES : Hid ((bss.map List.reverse).map btext = ss.map revS) := by
          show _ = _
          rw [HBS.out]
          unfold brows
          rw [List.map_map, List.map_map]
          refine List.map_congr_left fun r hr => ?_
          obtain ⟨i, hi, rfl⟩ := List.getElem_of_mem hr
          have := (HBP.out.2.2 i hi).2
          rw [gs_lt hi] at this
          exact btext_rev this
        go_wp2_with fail
        refine HBD.out.mono ?_; rintro e w5 ⟨A5, c5, rfl, ho5, hb5⟩
        have f5 := e1.below hb5 e1.lt
        have q5 : w5.cell? ⟨w.heap.size + 1, 0, none⟩ = some (.slice none 0 0) := f5.cell 0
        have z5 := f5.frozen 0
        rw [HRES.out] at ho5 ⊢
        have HLR : Hid ((ss.map revS).length = ss.length) := List.length_map _
        rw [HLR.out] at ho5 ⊢
        go_wp2
        refine bodyPost_ret (v := .tuple #[.agg #[.slice A5 ss.length c5], .bool true]) (by simp [results, Tryd.results45, go_sem, q5]) rfl ⟨A5, c5, by rw [HT.out, HLR.out, hg], ?_, ?_⟩
        · rw [HT.out, HLR.out]
          exact (ho5.far' _ _ (by dsimp only; omega)).le (by omega)
        · exact (gtr hb hb5).setCell (by dsimp only; omega) _
end Go.Proofs.YtjhfnjgeikeajaaDoor
