/- The cut of a tree by the reference: contract. Conditions: none. -/
import Derived.Test.YtbhficohgdlojaaDoorCt1
namespace Go.Proofs.YtbhficohgdlojaaDoor
open Go.RowKit
set_option linter.unusedVariables false

/-- The reference's names: -2 for what is gone. -/
def nm2 (nm : List Int) : List Int := nm.map fun x => if x < 0 then -2 else x
theorem nm2_len (nm : List Int) : (nm2 nm).length = nm.length := List.length_map _
theorem nm2_at (nm : List Int) (j : Nat) (h : j < nm.length) : gi (nm2 nm) j = if gi nm j < 0 then -2 else gi nm j := by
  unfold gi nm2
  simp [h]
theorem nm2_snoc (nm : List Int) (x : Int) : nm2 (nm ++ [x]) = nm2 nm ++ [if x < 0 then -2 else x] := by unfold nm2; rw [List.map_append]; rfl

set_option maxRecDepth 100000 in
set_option maxHeartbeats 3200000 in
theorem cutS_any (A : Option Addr) (c : Nat) (xs : List Int) (s : ByteArray) (e : Nat) (w : World) (B : Nat) (hB : B ≤ w.heap.size) (h : RdI w B A c xs) (hg : treeB xs s = true) (he : e < xs.length) :
    Calls Tryd.prog 68 #[.agg #[.slice A xs.length c, .string s], .int .i64 e] w (RetT w (cutT xs s e).1 (cutT xs s e).2) := by
  have h1 := h.len
  have h2 := h.max
  obtain ⟨t1, t2, t3, t4⟩ := treeB_of hg
  have HOK : Hid (∀ i, i ≤ xs.length → _) := fun i hi => cutN_ok (gi xs) s e xs.length t4 t3 t1 i hi
  have HU := Lib.hid t4
  have HN := Lib.hid t3
  have h8 : xs.length ≤ 8 := by omega
  have HLEN : Hid (∀ i, (cutN (gi xs) s e i).1.length = i) := fun i => cutN_len _ _ _ i
  have HEND : Hid ((cutN (gi xs) s e xs.length).2 = cutT xs s e) := rfl
  clear hg t1 t2 t3 t4
  go_enter Tryd.func68, Tryd.ntmps68
  go_wp2_with (at_make; refine make_ints rfl _ _ rfl xs.length rfl rfl (by omega) ?_; intro w1 ho1 hb1 hz1; have e0 : Blk w1 w.heap.size 26 #[.slice A xs.length c, .string s] := (((Blk.new w _ _).alloc _).alloc _).below hb1 (by simp; omega); have q0 : w1.cell? ⟨w.heap.size, 0, none⟩ = some (.slice A xs.length c) := e0.cell 0)
  have e1 : Blk w1 (w.heap.size + 1) 26 #[.slice none 0 0, .string ⟨#[]⟩] := ((Blk.new_at (w.alloc _) _ _ (by simp)).alloc _).below hb1 (by simp)
  have e2 : Blk w1 (w.heap.size + 1 + 1) 26 #[.slice none 0 0, .string ⟨#[]⟩] := (Blk.new_at ((w.alloc _).alloc _) _ _ (by simp)).below hb1 (by simp)
  have hsz3 : (((w.alloc (.cells #[.slice A xs.length c, .string s] 26)).alloc (.cells #[.slice none 0 0, .string ⟨#[]⟩] 26)).alloc (.cells #[.slice none 0 0, .string ⟨#[]⟩] 26)).heap.size = w.heap.size + 1 + 1 + 1 := by simp
  have hb2 : Below w.heap.size w w1 := (bel3 w _ _ _).trans (hb1.mono (by simp; omega))
  rw [hsz3] at ho1 hz1
  have oN2 : Own w1 (w.heap.size + 1 + 1 + 1) 3 (.slice (some ⟨w.heap.size + 1 + 1 + 1, 0, none⟩) xs.length xs.length) (ints (nm2 [] ++ List.replicate (xs.length - 0) 0)) := own_ints.1 (by simpa [nm2] using ho1)
  clear ho1 hb1 q0 hsz3
  obtain ⟨O, hO⟩ : ∃ O, O = w.heap.size + 1 + 1 := ⟨_, rfl⟩
  rw [← hO] at oN2 hz1 e2 ⊢
  obtain ⟨R, hR⟩ : ∃ R, R = O + 1 := ⟨_, rfl⟩
  rw [← hR] at oN2 hz1 ⊢
  have hRO : O < R := by omega
  have hOw : w.heap.size + 2 ≤ O := by omega
  clear hR hO
  obtain ⟨D, hD⟩ : ∃ D, D = w1.heap.size := ⟨_, rfl⟩
  rw [← hD] at hz1
  have hDle : D ≤ w1.heap.size := by omega
  clear hD
  go_loopw [7] (fun i wr => ∃ (k : Nat) (A' : Option Addr) (c' : Nat) (nm ous : List Int) (st : ByteArray), i = .int .i64 k ∧ k ≤ xs.length ∧ cutN (gi xs) s e k = (nm, ous, st) ∧ Blk wr O 26 #[.slice A' ous.length c', .string st] ∧ Blk wr w.heap.size 26 #[.slice A xs.length c, .string s] ∧ Blk wr (w.heap.size + 1) 26 #[.slice none 0 0, .string ⟨#[]⟩] ∧
    Own wr R 3 (.slice (some ⟨R, 0, none⟩) xs.length xs.length) (ints (nm2 nm ++ List.replicate (xs.length - k) 0)) ∧ Own wr D 3 (.slice A' ous.length c') (ints ous) ∧ Below w.heap.size w wr ∧ D ≤ wr.heap.size) (fun i _ => xs.length - (intOf i).toNat)
  case atStart => exact ⟨0, none, 0, [], [], ⟨#[]⟩, rfl, by omega, rfl, e2, e0, e1, oN2, World.ownsRow_nil _ _ _ 1, hb2, hDle⟩
  case round =>
    clear e0 e1 e2 oN2 hb2 hDle
    obtain ⟨k, A', c', nm, ous, st, rfl, hk, hcn, kO, kT, kR, oN, oO, hb, hz⟩ := hrel
    have HCN := Lib.hid hcn
    have hnl : nm.length = k := by have := HLEN.out k; rw [hcn] at this; exact this
    have hok := HOK.out k hk
    rw [hcn] at hok
    have hm8 : ous.length ≤ k := hok.2.1
    have hst8 : st.size = ous.length := hok.1.symm
    have HNM : Hid (∀ j, j < k → -1 ≤ gi nm j ∧ gi nm j < ous.length) := hok.2.2.2.2.2
    clear hcn hok
    have HNL := Lib.hid hnl; have HST := Lib.hid hst8
    clear hnl hst8
    by_cases hlt : k < xs.length
    · obtain ⟨bb, o, rfl, hbB, hc⟩ := (h.below hb hB).at (j := k) hlt
      have hup := hc k hlt
      have hkI : (k : Int) < (xs.length : Int) := by omega
      have hks : k < s.size := by rw [← HN.out]; exact hlt
      have hu := HU.out k hlt
      have hnl : (nm2 nm).length = k := by rw [nm2_len]; exact HNL.out
      have holdN := nm_own oN (nm_here (nm2 nm) xs.length k hlt hnl)
      have hfrN : wr.frozen? ⟨R, k, none⟩ = false := nm_fr oN _
      have HSN : Hid (Own (wr.setCell ⟨R, k, none⟩ (.int .i64 (-2))) R 3 (.slice (some ⟨R, 0, none⟩) xs.length xs.length) (ints ((nm2 nm ++ [-2]) ++ List.replicate (xs.length - (k + 1)) 0))) := by
        have this := nm_stored oN k (.int .i64 (-2))
        rw [nm_set (nm2 nm) (-2) xs.length k hlt hnl] at this
        have hl2 : (ints ((nm2 nm ++ [-2]) ++ List.replicate (xs.length - (k + 1)) 0)).length = xs.length := by rw [ints_len, List.length_append, List.length_append, List.length_replicate, hnl]; simp; omega
        show Own _ _ _ _ _
        unfold Own
        rw [hl2]
        exact this
      have HSM : Hid (Own ((wr.setCell ⟨R, k, none⟩ (.int .i64 (-2))).setCell ⟨R, k, none⟩ (.int .i64 ous.length)) R 3 (.slice (some ⟨R, 0, none⟩) xs.length xs.length) (ints ((nm2 nm ++ [(ous.length : Int)]) ++ List.replicate (xs.length - (k + 1)) 0))) := by
        have this := nm_stored HSN.out k (.int .i64 ous.length)
        have e : (ints ((nm2 nm ++ [-2]) ++ List.replicate (xs.length - (k + 1)) 0)).set k (.int .i64 ous.length) = ints ((nm2 nm ++ [(ous.length : Int)]) ++ List.replicate (xs.length - (k + 1)) 0) := by
          rw [ints_set, List.append_assoc, List.set_append_right _ _ (by omega), hnl, Nat.sub_self, List.append_assoc]
          rfl
        rw [e] at this
        have hl2 : (ints ((nm2 nm ++ [(ous.length : Int)]) ++ List.replicate (xs.length - (k + 1)) 0)).length = xs.length := by rw [ints_len, List.length_append, List.length_append, List.length_replicate, hnl]; simp; omega
        show Own _ _ _ _ _
        unfold Own
        rw [hl2]
        exact this
      have HC : Hid (∀ j, j < k → wr.cell? ⟨R, j, none⟩ = some (.int .i64 (if gi nm j < 0 then -2 else gi nm j))) := fun j hj => by
        have := nm_own oN (nm_at (nm2 nm) _ j (by omega))
        rwa [nm2_at nm j (by rw [HNL.out]; exact hj)] at this
      have HT := Lib.hid kT; have HR := Lib.hid kR; have HO := Lib.hid kO; have HOO := Lib.hid oO
      have q00 : wr.cell? ⟨w.heap.size, 0, none⟩ = some (.slice (some ⟨bb, o, none⟩) xs.length c) := kT.cell 0
      have hne1 : ¬ O = R := by omega
      have hne2 : ¬ R = O := by omega
      have hne3 : ¬ w.heap.size = R := by omega
      have hne4 : ¬ R = w.heap.size := by omega
      have hne5 : ¬ O = w.heap.size := by omega
      have hne6 : ¬ w.heap.size = O := by omega
      have hne7 : ¬ bb = R := by omega
      have hne8 : ¬ R = bb := by omega
      clear hc oN kT kR oO hnl
      by_cases hke : k = e
      · subst hke
        have HG : Hid (goneB (gi xs) k nm k = true) := by show _ = _; simp [goneB]
        have HOO2 : Hid (Own (wr.setCell ⟨R, k, none⟩ (.int .i64 (-2))) D 3 (.slice A' ous.length c') (ints ous)) := HOO.out.far _ _ (fun e => by have := (HOO.out.lt _ e).1; dsimp only at this; omega)
        have HNN : Hid (nm2 (nm ++ [-1]) = nm2 nm ++ [-2]) := nm2_snoc nm (-1)
        clear kO HOO
        go_wp2
        go_roundw
        case rel =>
          have hcn := cutN_gone (u := gi xs) (s := s) (e := k) (i := k) (by rw [HCN.out]; exact HG.out)
          rw [HCN.out] at hcn
          exact ⟨k + 1, A', c', nm ++ [-1], ous, st, by go_num, by omega, hcn, HO.out.far (by dsimp only; omega) _, HT.out.far (by dsimp only; omega) _, HR.out.far (by dsimp only; omega) _, by rw [HNN.out]; exact HSN.out, HOO2.out, hb.setCell (by dsimp only; omega) _, by simpa using hz⟩
        case measure => simp [intOf]; omega
      · have hkeI : ((k : Int) == (e : Int)) = false := by simp; omega
        by_cases hu0 : 0 ≤ gi xs k
        · obtain ⟨j, hj⟩ := Int.eq_ofNat_of_zero_le hu0
          have hjk : j < k := by omega
          have hcj := HC.out j hjk
          have hjn : (j : Int) < (xs.length : Int) := by omega
          have HJ := Lib.hid hj
          have hjk1 : ¬ j = k := by omega
          have hjk2 : ¬ k = j := by omega
          have hj0 : (0 : Int) ≤ (j : Int) := by omega
          rw [hj] at hup
          by_cases hng : gi nm j < 0
          · rw [if_pos hng] at hcj
            have HG : Hid (goneB (gi xs) e nm k = true) := by show _ = _; have := HJ.out; simp [goneB, this, hng]
            clear hj
            have HOO2 : Hid (Own (wr.setCell ⟨R, k, none⟩ (.int .i64 (-2))) D 3 (.slice A' ous.length c') (ints ous)) := HOO.out.far _ _ (fun e => by have := (HOO.out.lt _ e).1; dsimp only at this; omega)
            have HNN : Hid (nm2 (nm ++ [-1]) = nm2 nm ++ [-2]) := nm2_snoc nm (-1)
            clear kO HOO
            go_wp2
            go_roundw
            case rel =>
              have hcn := cutN_gone (u := gi xs) (s := s) (e := e) (i := k) (by rw [HCN.out]; exact HG.out)
              rw [HCN.out] at hcn
              exact ⟨k + 1, A', c', nm ++ [-1], ous, st, by go_num, by omega, hcn, HO.out.far (by dsimp only; omega) _, HT.out.far (by dsimp only; omega) _, HR.out.far (by dsimp only; omega) _, by rw [HNN.out]; exact HSN.out, HOO2.out, hb.setCell (by dsimp only; omega) _, by simpa using hz⟩
            case measure => simp [intOf]; omega
          · rw [if_neg hng] at hcj
            have hnb := HNM.out j hjk
            have ht2 : (gi nm j == -2) = false := by simp; omega
            have HG : Hid (goneB (gi xs) e nm k = false) := by show _ = _; have := HJ.out; simp [goneB, this, hke]; omega
            have HV : Hid ((if 0 ≤ gi xs k then gi nm (gi xs k).toNat else gi xs k) = gi nm j) := by show _ = _; rw [HJ.out, if_pos (by omega), Int.toNat_natCast]
            clear hj
            have HNN : Hid (nm2 (nm ++ [(ous.length : Int)]) = nm2 nm ++ [(ous.length : Int)]) := by show _ = _; rw [nm2_snoc, if_neg (by omega)]
            have HX : Hid (∀ W, Below D ((wr.setCell ⟨R, k, none⟩ (.int .i64 (-2))).setCell ⟨R, k, none⟩ (.int .i64 ous.length)) W → Blk W w.heap.size 26 #[.slice (some ⟨bb, o, none⟩) xs.length c, .string s] ∧ Blk W (w.heap.size + 1) 26 #[.slice none 0 0, .string ⟨#[]⟩] ∧ Own W R 3 (.slice (some ⟨R, 0, none⟩) xs.length xs.length) (ints ((nm2 nm ++ [(ous.length : Int)]) ++ List.replicate (xs.length - (k + 1)) 0))) := fun W hW =>
              ⟨((HT.out.far (p := ⟨R, k, none⟩) (by dsimp only; omega) _).far (p := ⟨R, k, none⟩) (by dsimp only; omega) _).below hW (by omega), ((HR.out.far (p := ⟨R, k, none⟩) (by dsimp only; omega) _).far (p := ⟨R, k, none⟩) (by dsimp only; omega) _).below hW (by omega), ownsRow_below HSM.out hW (fun g hg => by simp [Value.ownBlock] at hg; omega)⟩
            have hO2 := (HO.out.far (p := ⟨R, k, none⟩) (by dsimp only; omega) (.int .i64 (-2))).far (p := ⟨R, k, none⟩) (by dsimp only; omega) (.int .i64 ous.length)
            have hOO2 : Own ((wr.setCell ⟨R, k, none⟩ (.int .i64 (-2))).setCell ⟨R, k, none⟩ (.int .i64 ous.length)) D 3 (.slice A' ous.length c') (ints ous) := (HOO.out.far _ _ (fun e => by have := (HOO.out.lt _ e).1; dsimp only at this; omega)).far _ _ (fun e => by have := (HOO.out.lt _ e).1; dsimp only at this; omega)
            have qo0 : wr.cell? ⟨O, 0, none⟩ = some (.slice A' ous.length c') := kO.cell 0
            have qo1 : ∀ o', (((wr.setCell ⟨R, k, none⟩ (.int .i64 (-2))).setCell ⟨R, k, none⟩ (.int .i64 ous.length)).alloc o').cell? ⟨O, 0, none⟩ = some (.slice A' ous.length c') := fun o' => (hO2.alloc o').cell 0
            have hzD : D ≤ ((wr.setCell ⟨R, k, none⟩ (.int .i64 (-2))).setCell ⟨R, k, none⟩ (.int .i64 ous.length)).heap.size := by simpa using hz
            have hez : (s.extract k (k + 1)).size = 1 := by simp; omega
            have hadd := fun w => run_string_add_sum (P := Tryd.prog) w st (s.extract k (k + 1)) (by rw [hez, HST.out]; omega)
            obtain ⟨st', hst'⟩ : ∃ st', st' = st ++ s.extract k (k + 1) := ⟨_, rfl⟩
            rw [← hst'] at hadd
            have HST' := Lib.hid hst'
            have hk0 : (0 : Int) ≤ (k : Int) := by omega
            have hk1 : (k : Int) + 1 ≤ (s.size : Int) := by omega
            have hk2 : (k : Int) ≤ (k : Int) + 1 := by omega
            have hk3 : (0 : Int) ≤ (k : Int) + 1 := by omega
            clear kO hst' hez
            go_wp2_with (at_builtin; refine append_int_at rfl _ _ rfl D (.slice A' ous.length c') ous rfl (own_ints.2 (hOO2.below (bel1 _ _))) _ (gi nm j) rfl (Blk.new_at _ _ _ (by simp)) (by omega) (by simp; omega) ?_; intro A5 c5 w5 ho5 hb5 hg5 hp5; have hbb : Below D ((wr.setCell ⟨R, k, none⟩ (.int .i64 (-2))).setCell ⟨R, k, none⟩ (.int .i64 ous.length)) w5 := ((Below.refl D _).alloc (by omega) _).trans hb5; have hO5 := (hO2.alloc (.cells #[.int .i64 (gi nm j)] 3)).below hb5 (by omega); have hTT := (HX.out _ hbb).1; have u50 : w5.cell? ⟨O, 0, none⟩ = some (.slice A' ous.length c') := hO5.cell 0; have u51 : w5.cell? ⟨O, 1, none⟩ = some (.string st) := hO5.cell 1; have uf0 : w5.frozen? ⟨O, 0, none⟩ = false := hO5.frozen 0; have uf1 : w5.frozen? ⟨O, 1, none⟩ = false := hO5.frozen 1; have uT : w5.cell? ⟨w.heap.size, 1, none⟩ = some (.string s) := hTT.cell 1)
            have HX5 := Lib.hid (HX.out _ hbb)
            have HO5 := Lib.hid hO5
            have HOO5 := Lib.hid (own_ints.1 ho5)
            have hb5w : Below w.heap.size w w5 := ((hb.setCell (p := ⟨R, k, none⟩) (by dsimp only; omega) (.int .i64 (-2))).setCell (p := ⟨R, k, none⟩) (by dsimp only; omega) (.int .i64 ous.length)).trans (hbb.mono (by omega))
            have hz5 := hbb.size
            have hz5' : D ≤ w5.heap.size := by simp at hz5; omega
            clear ho5 hp5 hg5 hb5 hbb hTT hO5 hO2 hOO2 qo0 qo1 hzD hz5
            refine wp_region_tail 10 (by kernel_rfl) (by kernel_rfl) ?_
            simp only [List.take_succ_cons, List.take_zero, List.drop_succ_cons, List.drop_zero]
            repeat (go_big_quiet_step (fail))
            refine wpQuiet_nil ?_
            go_wp2
            go_roundw
            case rel =>
              have hcn := cutN_kept (u := gi xs) (s := s) (e := e) (i := k) (by rw [HCN.out]; exact HG.out)
              rw [HCN.out] at hcn
              dsimp only at hcn
              rw [HV.out, ← HST'.out] at hcn
              refine ⟨k + 1, A5, c5, nm ++ [(ous.length : Int)], ous ++ [gi nm j], st', by go_num, by omega, hcn, ?_, ?_, ?_, ?_, ?_, ?_, ?_⟩
              · rw [List.length_append, List.length_singleton]; exact (HO5.out.set 0 _).set 1 _
              · exact (HX5.out.1.far (by dsimp only; omega) _).far (by dsimp only; omega) _
              · exact (HX5.out.2.1.far (by dsimp only; omega) _).far (by dsimp only; omega) _
              · rw [HNN.out]; exact (HX5.out.2.2.far _ _ (by simp [Value.ownBlock]; omega)).far _ _ (by simp [Value.ownBlock]; omega)
              · rw [List.length_append, List.length_singleton]; exact (HOO5.out.far _ _ (fun e => by have := (HOO5.out.lt _ e).1; dsimp only at this; omega)).far _ _ (fun e => by have := (HOO5.out.lt _ e).1; dsimp only at this; omega)
              · repeat (first | exact hb5w | refine Below.drew ?_ | refine Below.setCell ?_ (by show _ ≤ O; omega) _)
              · simpa using hz5'
            case measure => simp [intOf]; omega
        · have hu1 : gi xs k = -1 := by omega
          have hU1 := Lib.hid hu1
          rw [hu1] at hup
          have HG : Hid (goneB (gi xs) e nm k = false) := by show _ = _; have := hU1.out; simp [goneB, this, hke]
          have HV : Hid ((if 0 ≤ gi xs k then gi nm (gi xs k).toNat else gi xs k) = -1) := by show _ = _; rw [hU1.out]; rfl
          clear hu1
          have HNN : Hid (nm2 (nm ++ [(ous.length : Int)]) = nm2 nm ++ [(ous.length : Int)]) := by show _ = _; rw [nm2_snoc, if_neg (by omega)]
          have HX : Hid (∀ W, Below D ((wr.setCell ⟨R, k, none⟩ (.int .i64 (-2))).setCell ⟨R, k, none⟩ (.int .i64 ous.length)) W → Blk W w.heap.size 26 #[.slice (some ⟨bb, o, none⟩) xs.length c, .string s] ∧ Blk W (w.heap.size + 1) 26 #[.slice none 0 0, .string ⟨#[]⟩] ∧ Own W R 3 (.slice (some ⟨R, 0, none⟩) xs.length xs.length) (ints ((nm2 nm ++ [(ous.length : Int)]) ++ List.replicate (xs.length - (k + 1)) 0))) := fun W hW =>
            ⟨((HT.out.far (p := ⟨R, k, none⟩) (by dsimp only; omega) _).far (p := ⟨R, k, none⟩) (by dsimp only; omega) _).below hW (by omega), ((HR.out.far (p := ⟨R, k, none⟩) (by dsimp only; omega) _).far (p := ⟨R, k, none⟩) (by dsimp only; omega) _).below hW (by omega), ownsRow_below HSM.out hW (fun g hg => by simp [Value.ownBlock] at hg; omega)⟩
          have hO2 := (HO.out.far (p := ⟨R, k, none⟩) (by dsimp only; omega) (.int .i64 (-2))).far (p := ⟨R, k, none⟩) (by dsimp only; omega) (.int .i64 ous.length)
          have hOO2 : Own ((wr.setCell ⟨R, k, none⟩ (.int .i64 (-2))).setCell ⟨R, k, none⟩ (.int .i64 ous.length)) D 3 (.slice A' ous.length c') (ints ous) := (HOO.out.far _ _ (fun e => by have := (HOO.out.lt _ e).1; dsimp only at this; omega)).far _ _ (fun e => by have := (HOO.out.lt _ e).1; dsimp only at this; omega)
          have qo0 : wr.cell? ⟨O, 0, none⟩ = some (.slice A' ous.length c') := kO.cell 0
          have qo1 : ∀ o', (((wr.setCell ⟨R, k, none⟩ (.int .i64 (-2))).setCell ⟨R, k, none⟩ (.int .i64 ous.length)).alloc o').cell? ⟨O, 0, none⟩ = some (.slice A' ous.length c') := fun o' => (hO2.alloc o').cell 0
          have hzD : D ≤ ((wr.setCell ⟨R, k, none⟩ (.int .i64 (-2))).setCell ⟨R, k, none⟩ (.int .i64 ous.length)).heap.size := by simpa using hz
          have hez : (s.extract k (k + 1)).size = 1 := by simp; omega
          have hadd := fun w => run_string_add_sum (P := Tryd.prog) w st (s.extract k (k + 1)) (by rw [hez, HST.out]; omega)
          obtain ⟨st', hst'⟩ : ∃ st', st' = st ++ s.extract k (k + 1) := ⟨_, rfl⟩
          rw [← hst'] at hadd
          have HST' := Lib.hid hst'
          have hk0 : (0 : Int) ≤ (k : Int) := by omega
          have hk1 : (k : Int) + 1 ≤ (s.size : Int) := by omega
          have hk2 : (k : Int) ≤ (k : Int) + 1 := by omega
          have hk3 : (0 : Int) ≤ (k : Int) + 1 := by omega
          clear kO hst' hez
          go_wp2_with (at_builtin; refine append_int_at rfl _ _ rfl D (.slice A' ous.length c') ous rfl (own_ints.2 (hOO2.below (bel1 _ _))) _ (-1) rfl (Blk.new_at _ _ _ (by simp)) (by omega) (by simp; omega) ?_; intro A5 c5 w5 ho5 hb5 hg5 hp5; have hbb : Below D ((wr.setCell ⟨R, k, none⟩ (.int .i64 (-2))).setCell ⟨R, k, none⟩ (.int .i64 ous.length)) w5 := ((Below.refl D _).alloc (by omega) _).trans hb5; have hO5 := (hO2.alloc (.cells #[.int .i64 (-1)] 3)).below hb5 (by omega); have hTT := (HX.out _ hbb).1; have u50 : w5.cell? ⟨O, 0, none⟩ = some (.slice A' ous.length c') := hO5.cell 0; have u51 : w5.cell? ⟨O, 1, none⟩ = some (.string st) := hO5.cell 1; have uf0 : w5.frozen? ⟨O, 0, none⟩ = false := hO5.frozen 0; have uf1 : w5.frozen? ⟨O, 1, none⟩ = false := hO5.frozen 1; have uT : w5.cell? ⟨w.heap.size, 1, none⟩ = some (.string s) := hTT.cell 1)
          have HX5 := Lib.hid (HX.out _ hbb)
          have HO5 := Lib.hid hO5
          have HOO5 := Lib.hid (own_ints.1 ho5)
          have hb5w : Below w.heap.size w w5 := ((hb.setCell (p := ⟨R, k, none⟩) (by dsimp only; omega) (.int .i64 (-2))).setCell (p := ⟨R, k, none⟩) (by dsimp only; omega) (.int .i64 ous.length)).trans (hbb.mono (by omega))
          have hz5 := hbb.size
          have hz5' : D ≤ w5.heap.size := by simp at hz5; omega
          clear ho5 hp5 hg5 hb5 hbb hTT hO5 hO2 hOO2 qo0 qo1 hzD hz5
          refine wp_region_tail 10 (by kernel_rfl) (by kernel_rfl) ?_
          simp only [List.take_succ_cons, List.take_zero, List.drop_succ_cons, List.drop_zero]
          repeat (go_big_quiet_step (fail))
          refine wpQuiet_nil ?_
          go_wp2
          go_roundw
          case rel =>
            have hcn := cutN_kept (u := gi xs) (s := s) (e := e) (i := k) (by rw [HCN.out]; exact HG.out)
            rw [HCN.out] at hcn
            dsimp only at hcn
            rw [HV.out, ← HST'.out] at hcn
            refine ⟨k + 1, A5, c5, nm ++ [(ous.length : Int)], ous ++ [-1], st', by go_num, by omega, hcn, ?_, ?_, ?_, ?_, ?_, ?_, ?_⟩
            · rw [List.length_append, List.length_singleton]; exact (HO5.out.set 0 _).set 1 _
            · exact (HX5.out.1.far (by dsimp only; omega) _).far (by dsimp only; omega) _
            · exact (HX5.out.2.1.far (by dsimp only; omega) _).far (by dsimp only; omega) _
            · rw [HNN.out]; exact (HX5.out.2.2.far _ _ (by simp [Value.ownBlock]; omega)).far _ _ (by simp [Value.ownBlock]; omega)
            · rw [List.length_append, List.length_singleton]; exact (HOO5.out.far _ _ (fun e => by have := (HOO5.out.lt _ e).1; dsimp only at this; omega)).far _ _ (fun e => by have := (HOO5.out.lt _ e).1; dsimp only at this; omega)
            · repeat (first | exact hb5w | refine Below.drew ?_ | refine Below.setCell ?_ (by show _ ≤ O; omega) _)
            · simpa using hz5'
          case measure => simp [intOf]; omega
    · obtain rfl : k = xs.length := by omega
      have hcn := HCN.out
      have HRES : Hid (cutT xs s e = (ous, st)) := by show _ = _; rw [← HEND.out, hcn]
      have q00 : wr.cell? ⟨w.heap.size, 0, none⟩ = some (.slice A xs.length c) := kT.cell 0
      have q0 : wr.cell? ⟨O, 0, none⟩ = some (.slice A' ous.length c') := kO.cell 0
      have q1 : wr.cell? ⟨O, 1, none⟩ = some (.string st) := kO.cell 1
      have r0 : wr.cell? ⟨w.heap.size + 1, 0, none⟩ = some (.slice none 0 0) := kR.cell 0
      have r1 : wr.cell? ⟨w.heap.size + 1, 1, none⟩ = some (.string ⟨#[]⟩) := kR.cell 1
      have z0 := kR.frozen 0
      have z1 := kR.frozen 1
      have HO := Lib.hid oO
      clear kO kT kR oN oO hcn
      go_wp2
      refine bodyPost_ret (v := .agg #[.slice A' ous.length c', .string st]) (by simp [results, Tryd.results68, go_sem, r0, r1]) rfl ⟨A', c', by rw [HRES.out], ?_, ?_⟩
      · rw [HRES.out]
        exact own_ints.2 (((HO.out.far _ _ (fun e => by have := (HO.out.lt _ e).1; dsimp only at this; omega)).far _ _ (fun e => by have := (HO.out.lt _ e).1; dsimp only at this; omega)).le (by omega))
      · exact (hb.setCell (by dsimp only; omega) _).setCell (by dsimp only; omega) _
end Go.Proofs.YtbhficohgdlojaaDoor
