/- FnExactMisereMoves returns true: the walk. Conditions: none. -/
import Derived.Test.YtdckgplmkigjcaaMovI
import Derived.Test.YtdckgplmkigjcaaPlay0
import Derived.Test.YtdckgplmkigjcaaMark
namespace Go.Proofs.Ytdckgplmkigjcaa
open Go.RowKit
set_option linter.unusedVariables false

theorem HL.frr {w : World} {lo : Nat} {v : Value} {b : Nat} {P : List Int → Prop} (h : HL w lo v b P) : ∃ (S : List (List Int)) (A : Option Addr) (c : Nat), v = .slice A S.length c ∧ FrR w lo 22 3 (.slice A S.length c) (S.map ints) ∧ Sorted S ∧ S.length ≤ b ∧ ∀ q, q ∈ S ↔ P q := by
  obtain ⟨L, g, c, rfl, h2, h3, h4, h5, h6, h7⟩ := h
  have hl : (L.map (·.2)).length = L.length := List.length_map _
  have hfr : FrR w lo 22 3 (.slice (some ⟨g, 0, none⟩) L.length c) ((L.map (·.2)).map ints) := ⟨_, h2, h3.frc, fun i u k hi hu he => by
    rw [List.getElem?_map] at hi
    rcases hx : L[i]? with _ | x
    · rw [hx] at hi; cases hi
    · rw [hx] at hi
      simp only [Option.map_some, Option.some.injEq] at hi
      subst hi
      injection he with he
      subst he
      exact h4 x (List.mem_of_getElem? hx) hu⟩
  exact ⟨L.map (·.2), some ⟨g, 0, none⟩, c, by rw [hl], by rw [hl]; exact hfr, h5, by rw [hl]; exact h6, h7⟩
theorem FrR.grownF {w w' : World} {lo : Nat} {E e : TypeId} {v : Value} {css : List (List Value)} {row : Option Nat} (h : FrR w lo E e v css) (hg : w.grownBy w' row) (hr : ∀ k, row = some k → k < lo ∨ w.heap.size ≤ k) : FrR w' lo E e v css := by
  obtain ⟨cs, h1, h2, h3⟩ := h
  have key : ∀ (u : Value) (xs : List Value) (T : TypeId), Own w lo T u xs → Own w' lo T u xs := fun u xs T k => by
    refine k.grown hg ?_
    rcases hob : u.ownBlock with _ | j
    · exact .inl rfl
    · refine .inr fun he => ?_
      have h4 := k.lt j hob
      rcases hr j he.symm with h5 | h5 <;> omega
  exact ⟨cs, key _ _ _ h1, h2.keep fun i u xs hi k => key _ _ _ k, h3⟩
theorem rdR_le {w : World} {lo lo' B c : Nat} {A : Option Addr} {xss : List (List Int)} (h : RdR w lo B A c xss) (hl : lo' ≤ lo) : RdR w lo' B A c xss := by
  obtain ⟨cs, h1, h2, h3⟩ := h
  exact ⟨cs, h1, h2.le hl, h3.le hl⟩
/-- What MisereMoves hands back. -/
def MvR (cs p : List Int) (S : List (List Int)) : Prop := (smallB cs p 20 = false ∧ S = []) ∨ (smallB cs p 20 = true ∧ Wn cs (nz p) S)
theorem MvR.unique {cs p : List Int} {S T : List (List Int)} (h : MvR cs p S) (k : MvR cs p T) : S = T := by
  rcases h with ⟨h1, h2⟩ | ⟨h1, h2⟩ <;> rcases k with ⟨k1, k2⟩ | ⟨k1, k2⟩
  · rw [h2, k2]
  · rw [h1] at k1; cases k1
  · rw [h1] at k1; cases k1
  · exact h2.unique k2
theorem MvR.row {cs p : List Int} {S : List (List Int)} (h : MvR cs p S) : ∀ q ∈ S, q.length ≤ 20 := by
  rcases h with ⟨_, rfl⟩ | ⟨h1, h2⟩
  · intro q hq; cases hq
  · intro q hq
    obtain ⟨g1, g2, g3⟩ := smallB_of h1
    exact (hp_opt (hp_nz g2 g3) ((h2.2 q).1 hq).1).1.len
theorem off_le20 (xss : List (List Int)) (h : ∀ x ∈ xss, x.length ≤ 20) : ∀ i, i ≤ xss.length → off xss i ≤ 20 * i := by
  intro i
  induction i with
  | zero => intro _; simp [off]
  | succ i ih =>
    intro hi
    have h1 := ih (by omega)
    have h2 : (gl xss i).length ≤ 20 := by rw [gl_lt (show i < xss.length by omega)]; exact h _ (List.getElem_mem _)
    rw [off]; omega

set_option maxHeartbeats 800000 in
theorem movI_any (A A' : Option Addr) (c c' : Nat) (cs p : List Int) (w : World) (B : Nat) (hB : B ≤ w.heap.size) (h : RdI w B A c cs) (h' : RdI w B A' c' p) :
    Calls Try.prog 37 #[.slice A cs.length c, .slice A' p.length c'] w fun e w' => ∃ (S : List (List Int)) (A3 : Option Addr) (c3 : Nat), MvR cs p S ∧ S.length ≤ 200000 ∧ e = .returned (.tuple #[.slice A3 S.length c3, .bool (smallB cs p 20)]) ∧ FrR w' w.heap.size 22 3 (.slice A3 S.length c3) (S.map ints) ∧ Below w.heap.size w w' := by
  have HS := Lib.hid (smallI_any A A' c c' cs p 20 w B h h')
  rcases hs : smallB cs p 20 with _ | _
  · rw [hs] at HS
    have HR : Hid (MvR cs p []) := Lib.hid (.inl ⟨hs, rfl⟩)
    clear hs
    go_enter Try.func37, Try.ntmps37
    go_wp2_with (go_at_call 60; (with_reducible refine (HS.out).mono ?_); rintro e w1 ⟨rfl, rfl⟩)
    go_ret2
    exact ⟨[], none, 0, HR.out, by simp, rfl, FrR.nil (own_nil _ _ _), Below.refl _ _⟩
  · rw [hs] at HS
    obtain ⟨g1, g2, g3⟩ := smallB_of hs
    have HW := Lib.hid hs
    have HG1 := Lib.hid g1; have HP := Lib.hid (hp_nz g2 g3); have HH := Lib.hid h; have HH' := Lib.hid h'; have HG2 := Lib.hid (goodH_pos g2)
    have hpl := g2.1
    clear hs g1 g2 g3 h h'
    go_enter Try.func37, Try.ntmps37
    go_wp2_with (first
      | (go_at_call 60; (with_reducible refine (HS.out).mono ?_); rintro e w1 ⟨rfl, rfl⟩)
      | (go_at_call 53; (with_reducible refine (newM_any A c cs _).mono ?_); rintro e w2 ⟨b, rfl, hbw, hM2, hb2⟩; have hv := losing_any cs HG1.out A c B b (by omega) p (nz p) w2 A' c' [] rfl HP.out HG2.out (by omega) hM2 (HH.out.below hb2 hB) ((HH'.out.below hb2 hB).more (by have := hb2.size; omega)))
      | (go_at_call 62; (with_reducible refine (hv).mono ?_); rintro e w4 ⟨⟨v, rfl, hL⟩, -, hg4⟩; obtain ⟨S, A3, c3, rfl, hF, hso, hle, hmem⟩ := hL.frr))
    go_ret2
    exact ⟨S, A3, c3, .inr ⟨HW.out, hso, hmem⟩, hle, rfl, hF.le hb2.size, hb2.grown hg4 hb2.size fun k hk => by injection hk with hk; omega⟩

set_option maxHeartbeats 800000 in
theorem movS_any (A A' : Option Addr) (c c' : Nat) (cs p : List Int) (w : World) (B : Nat) (hB : B ≤ w.heap.size) (h : RdI w B A c cs) (h' : RdI w B A' c' p) :
    Calls Try.prog 36 #[.slice A cs.length c, .slice A' p.length c'] w fun e w' => ∃ (S : List (List Int)) (A3 : Option Addr) (c3 : Nat), MvR cs p S ∧ S.length ≤ 200000 ∧ e = .returned (.tuple #[.slice A3 S.length c3, .bool (smallB cs p 20)]) ∧ RdR w' w.heap.size w'.heap.size A3 c3 S ∧ Below w.heap.size w w' := by
  have HS := Lib.hid (goodS_any A A' c c' cs p w B hB h h')
  rcases hs : smallB cs p 20 with _ | _
  · rw [hs] at HS
    have HR : Hid (MvR cs p []) := Lib.hid (.inl ⟨hs, rfl⟩)
    clear hs
    go_enter Try.func36, Try.ntmps36
    go_wp2_with (go_at_call 55; (with_reducible refine (HS.out).mono ?_); rintro e w1 ⟨rfl, hb1⟩)
    go_ret2
    exact ⟨[], none, 0, HR.out, by simp, rfl, ⟨[], Rd.nil, Lo.none, RowsAt.nil⟩, hb1⟩
  · rw [hs] at HS
    obtain ⟨g1, g2, g3⟩ := smallB_of hs
    have HW := Lib.hid hs
    have HG1 := Lib.hid g1; have HP := Lib.hid (hp_nz g2 g3); have HH := Lib.hid h; have HH' := Lib.hid h'
    have HSO := Lib.hid (nz_sorted g2)
    have hpl := g2.1
    clear hs g1 g2 g3 h h'
    go_enter Try.func36, Try.ntmps36
    go_wp2_with (first
      | (go_at_call 55; (with_reducible refine (HS.out).mono ?_); rintro e w1 ⟨rfl, hb1⟩)
      | (go_at_call 48; (with_reducible refine (new_any A c cs _).mono ?_); rintro e w2 ⟨g, gk, gv, rfl, hl1, hl2, hl3, hM2, hb2⟩; have hb12 := gtr hb1 hb2)
      | (go_at_call 56; (with_reducible refine (sortS_any A' c' p w2 B (by have := hb12.size; omega) (HH'.out.below hb12 hB) (by omega)).mono ?_); rw [HSO.out]; rintro e w3 ⟨A3, c3, rfl, ho3, hb3⟩; have hv := movesB_any cs HG1.out A c B g gk gv (by have := hb1.size; omega) (by have := hb1.size; omega) (nz p) w3 A3 c3 _ _ HP.out (hM2.below hb3) (HH.out.below (gtr hb12 hb3) hB) (ho3.rd rfl) (fun a ha => by subst ha; have := (ho3.lt a.block rfl).1; have := hM2.lt; exact ⟨by omega, by omega⟩))
      | (go_at_call 57; (with_reducible refine (hv).mono ?_); rintro e w4 ⟨⟨v, rfl, S, A4, c4, rfl, hrS, hso, hle, hmem⟩, -, hg4⟩))
    go_ret2
    have hz1 := hb1.size
    have hz2 := hb2.size
    have hz3 := hb3.size
    exact ⟨S, A4, c4, .inr ⟨HW.out, hso, hmem⟩, hle, rfl, rdR_le hrS (by omega), Tw.below (gtr hb12 hb3) hg4 (by omega) (by omega)⟩

set_option maxRecDepth 100000 in
set_option maxHeartbeats 3200000 in
theorem lawMoves (a : Option Addr) (len cap : Nat) (zs : List Int) (a' : Option Addr) (len' cap' : Nat) (zs' : List Int) (w : World) (h : IsRow .i64 w a len cap zs) (h' : IsRow .i64 w a' len' cap' zs') :
    Calls Try.prog 10 #[.slice a len cap, .slice a' len' cap'] w fun e w' => e = .returned (.bool true) ∧ Below w.heap.size w w' := by
  obtain ⟨hr, hl⟩ := h.rd
  obtain ⟨hr', hl'⟩ := h'.rd
  clear h h'
  generalize zs.take len = xs at hr hl
  generalize zs'.take len' = ys at hr' hl'
  subst hl hl'
  have h1 := hr.len
  have h2 := hr.max
  have h3 := hr'.len
  have h4 := hr'.max
  by_cases hbig : 1048576 < xs.length
  · go_enter Try.func10, Try.ntmps10
    go_wp2
    go_ret
    exact ⟨rfl, Below.refl _ _⟩
  by_cases hbig' : 1048576 < ys.length
  · go_enter Try.func10, Try.ntmps10
    go_wp2
    go_ret
    exact ⟨rfl, Below.refl _ _⟩
  have hsm : xs.length ≤ 1048576 := by omega
  have hsm' : ys.length ≤ 1048576 := by omega
  have g0 := Below.refl w.heap.size w
  obtain ⟨ok, hok⟩ : ∃ ok, ok = smallB xs ys 20 := ⟨_, rfl⟩
  have HS := Lib.hid fun A A' c c' W => movS_any A A' c c' xs ys W W.heap.size (Nat.le_refl _)
  have HI := Lib.hid fun A A' c c' W => movI_any A A' c c' xs ys W W.heap.size (Nat.le_refl _)
  rw [← hok] at HS HI
  clear hok
  have hbe : (ok != ok) = false := by cases ok <;> rfl
  have hxx : decide (xs = xs) = true := decide_eq_true rfl
  have hyy : decide (ys = ys) = true := decide_eq_true rfl
  go_enter Try.func10, Try.ntmps10
  go_wp2_with fail
  ((with_reducible refine (toIntS_any _ _ xs _ _ g0.size (hr.below g0 (Nat.le_refl _)) hsm).mono ?_); rintro e w1 ⟨A1, c1, rfl, ho1, hb1⟩)
  have g1 := gtr g0 hb1
  go_wp2_with fail
  ((with_reducible refine (toIntS_any _ _ ys _ _ g1.size (hr'.below g1 (Nat.le_refl _)) hsm').mono ?_); rintro e w2 ⟨A2, c2, rfl, ho2, hb2⟩)
  have g2 := gtr g1 hb2
  go_wp2_with fail
  ((with_reducible refine (HS.out A1 A2 c1 c2 _ ((ho1.below hb2).rd rfl) (ho2.rd rfl)).mono ?_); rintro e w3 ⟨S, A3, c3, hMR, hSl, rfl, hs3, hb3⟩)
  have g3 := gtr g2 hb3
  have hz3 := hb3.size
  have HMR := Lib.hid hMR
  have HOf := Lib.hid (off_le20 S hMR.row)
  have hSS : decide (S = S) = true := decide_eq_true rfl
  have hoff := HOf.out S.length (Nat.le_refl _)
  clear hMR ho1 ho2 hb1
  go_wp2_with fail
  ((with_reducible refine (toIntS_any _ _ xs _ _ g3.size (hr.below g3 (Nat.le_refl _)) hsm).mono ?_); rintro e w4 ⟨A4, c4, rfl, ho4, hb4⟩)
  have g4 := gtr g3 hb4
  have hz4 := hb4.size
  have hs4 := hs3.below hb4 (Nat.le_refl _)
  have HBLK4 : Hid (∀ k, (Value.slice A4 xs.length c4).ownBlock = some k → k < w4.heap.size) := fun k hk => ((own_ints.1 ho4).lt k hk).2
  clear hs3
  go_wp2_with fail
  ((with_reducible refine (toIntS_any _ _ ys _ _ g4.size (hr'.below g4 (Nat.le_refl _)) hsm').mono ?_); rintro e w5 ⟨A5, c5, rfl, ho5, hb5⟩)
  have g5 := gtr g4 hb5
  have hz5 := hb5.size
  have hs5 := hs4.below hb5 (by omega)
  have hx5 := ho4.below hb5
  have HBLK5 : Hid (∀ k, (Value.slice A5 ys.length c5).ownBlock = some k → k < w5.heap.size) := fun k hk => ((own_ints.1 ho5).lt k hk).2
  clear hs4 ho4 hb4
  go_wp2_with fail
  ((with_reducible refine (HI.out A4 A5 c4 c5 _ (hx5.rd rfl) (ho5.rd rfl)).mono ?_); rintro e w6 ⟨S', A6, c6, hMR', hSl', rfl, ho6, hb6⟩)
  obtain rfl : S = S' := HMR.out.unique hMR'
  have g6 := gtr g5 hb6
  have hz6 := hb6.size
  have hx6 := hx5.below hb6
  have hy6 := ho5.below hb6
  have hs6 := hs5.below hb6 (by omega)
  clear hx5 ho5 hs5 hb5 hb6 hMR' hSl'
  clear hb3
  have hzw3 := g3.size
  go_wp2_with fail
  ((with_reducible refine (eqRows_any _ _ _ _ S S _ w5.heap.size w2.heap.size _ (Nat.le_refl _) ho6.rd (hs6.more (by omega))).mono ?_); rintro e w7 ⟨rfl, hb7⟩)
  have g7 := gtr g6 hb7
  have hz7 := hb7.size
  have ho7 := ho6.below hb7
  have hx7 := hx6.below hb7
  have hy7 := hy6.below hb7
  have hs7 := hs6.below hb7 (by omega)
  clear ho6 hx6 hy6 hs6 hb7
  go_wp2_with fail
  ((with_reducible refine (toIntS_any _ _ xs _ _ g7.size (hr.below g7 (Nat.le_refl _)) hsm).mono ?_); rintro e w8 ⟨A8, c8, rfl, hm8, hb8⟩)
  have g8 := gtr g7 hb8
  have hz8 := hb8.size
  have ho8 := ho7.below hb8
  have hx8 := hx7.below hb8
  have hy8 := hy7.below hb8
  have hs8 := hs7.below hb8 (by omega)
  clear ho7 hx7 hy7 hs7 hb8
  go_wp2_with fail
  ((with_reducible refine (eqIntS_any _ _ _ _ xs xs _ _ (Nat.le_refl _) (hx8.rd rfl) (hm8.rd rfl)).mono ?_); rintro e w9 ⟨rfl, hb9⟩)
  have g9 := gtr g8 hb9
  have hz9 := hb9.size
  have ho9 := ho8.below hb9
  have hx9 := hx8.below hb9
  have hy9 := hy8.below hb9
  have hs9 := hs8.below hb9 (by omega)
  clear ho8 hx8 hy8 hs8 hb9 hm8
  go_wp2_with fail
  ((with_reducible refine (toIntS_any _ _ ys _ _ g9.size (hr'.below g9 (Nat.le_refl _)) hsm').mono ?_); rintro e wA ⟨AA, cA, rfl, hmA, hbA⟩)
  have gA := gtr g9 hbA
  have hzA := hbA.size
  have hoA := ho9.below hbA
  have hxA := hx9.below hbA
  have hyA := hy9.below hbA
  have hsA := hs9.below hbA (by omega)
  clear ho9 hx9 hy9 hs9 hbA
  go_wp2_with fail
  ((with_reducible refine (eqIntS_any _ _ _ _ ys ys _ _ (Nat.le_refl _) (hyA.rd rfl) (hmA.rd rfl)).mono ?_); rintro e wB ⟨rfl, hbB⟩)
  have gB := gtr gA hbB
  have hzB := hbB.size
  have hoB := hoA.below hbB
  have hxB := own_ints.1 (hxA.below hbB)
  have hyB := own_ints.1 (hyA.below hbB)
  have hsB := hsA.below hbB (by omega)
  clear hoA hxA hyA hsA hbB hmA
  have HBX : Hid (∀ k, (Value.slice A4 xs.length c4).ownBlock = some k → w3.heap.size ≤ k ∧ k < w4.heap.size) := fun k hk => ⟨(hxB.lt k hk).1, HBLK4.out k hk⟩
  have HBY : Hid (∀ k, (Value.slice A5 ys.length c5).ownBlock = some k → w4.heap.size ≤ k ∧ k < w5.heap.size) := fun k hk => ⟨(hyB.lt k hk).1, HBLK5.out k hk⟩
  go_wp2_with fail
  ((with_reducible refine (markRow_any _ _ _ _ _ _ hxB (by decide) (by omega)).mono ?_); rintro e wC ⟨rfl, _, hgC⟩)
  have hzC := hgC.size
  have gC : Below w.heap.size w wC := gB.grown hgC (by have := gB.size; omega) fun k hk => by have := HBX.out k hk; omega
  have hoC := hoB.grownF hgC (fun k hk => .inl (by have := HBX.out k hk; omega))
  have hyC := hyB.grown hgC (by
    rcases hob : (Value.slice A5 ys.length c5).ownBlock with _ | k
    · exact .inl rfl
    · refine .inr fun e => ?_
      have := HBY.out k hob
      have := HBX.out k e.symm
      omega)
  have hsC := hsB.grown hgC (by omega) fun k hk => .inr (HBX.out k hk).1
  clear hoB hyB hsB hgC hxB
  go_wp2_with fail
  ((with_reducible refine (markRow_any _ _ _ _ _ _ hyC (by omega) (by omega)).mono ?_); rintro e wD ⟨rfl, _, hgD⟩)
  have hzD := hgD.size
  have gD : Below w.heap.size w wD := gC.grown hgD (by have := gC.size; omega) fun k hk => by have := HBY.out k hk; omega
  have hoD := hoC.grownF hgD (fun k hk => .inl (by have := HBY.out k hk; omega))
  have hsD := hsC.grown hgD (by omega) fun k hk => .inr (by have := HBY.out k hk; omega)
  clear hoC hyC hsC hgD
  have hkk : ¬ (1 : Int) + (xs.length : Int) + (ys.length : Int) < 0 := by omega
  go_wp2_with fail
  ((with_reducible refine (eqRows_any _ _ _ _ S S _ w5.heap.size w2.heap.size _ (Nat.le_refl _) hoD.rd (hsD.more (by omega))).mono ?_); rintro e wE ⟨rfl, hbE⟩)
  have gE := gtr gD hbE
  have hzE := hbE.size
  have hoE := hoD.below hbE
  have hsE := hsD.below hbE (by omega)
  clear hoD hsD hbE
  go_wp2_with fail
  ((with_reducible refine (markRows_any _ _ S 1 wE w5.heap.size hoE (by omega) (by omega) (by omega)).mono ?_); rintro e wF ⟨rfl, hoF, hbF⟩)
  have hzF := hbF.size
  have gF : Below w.heap.size w wF := gE.trans (hbF.mono (by omega))
  have hsF := hsE.below hbF (by omega)
  have hheld : Hid (∀ w' B, B ≤ w'.heap.size → RdR w' w5.heap.size B A6 c6 (mk 1 S S.length) → Calls Try.prog 24 #[.slice A6 S.length c6, .int .i64 1] w' fun e w'' => e = .returned (.int .i64 (1 + off S S.length)) ∧ w' = w'') := fun w' B hB hr => by
    have hgl : ∀ j, j < S.length → gl (mk 1 S S.length) j = numRow (1 + off S j) (gl S j).length := fun j hj => by rw [gl_mk 1 S S.length j hj, if_pos hj]
    have := heldRows_any A6 c6 (mk 1 S S.length) 1 (off S) w' w5.heap.size B hB hr (by omega) rfl
      (fun j hj => by rw [mk_len] at hj; rw [hgl j hj, numRow_len]; rfl)
      (fun j hj => by rw [mk_len] at hj; rw [hgl j hj, numRow_len])
      (fun j hj => by rw [mk_len] at hj; have := HOf.out j hj; omega)
    rw [mk_len] at this
    exact this
  have hnF := hoF.rd
  clear hoE hsE hoF
  generalize hN : off S S.length = N at *
  generalize mk 1 S S.length = Y at *
  clear hN
  go_wp2_with fail
  ((with_reducible refine (hheld.out wF _ (Nat.le_refl _) hnF).mono ?_); rintro e wG ⟨rfl, rfl⟩)
  have hnn : ¬ 1 + (N : Int) < 0 := by omega
  go_wp2_with fail
  ((with_reducible refine (toIntS_any _ _ xs _ _ gF.size (hr.below gF (Nat.le_refl _)) hsm).mono ?_); rintro e wH ⟨AH, cH, rfl, hmH, hbH⟩)
  have gH := gtr gF hbH
  have hzH := hbH.size
  have hsH := hsF.below hbH (by omega)
  have hnH := hnF.below hbH (Nat.le_refl _)
  clear hsF
  go_wp2_with fail
  ((with_reducible refine (toIntS_any _ _ ys _ _ gH.size (hr'.below gH (Nat.le_refl _)) hsm').mono ?_); rintro e wJ ⟨AJ, cJ, rfl, hmJ, hbJ⟩)
  have gJ := gtr gH hbJ
  have hzJ := hbJ.size
  have hsJ := hsH.below hbJ (by omega)
  have hnJ := hnH.below hbJ (by omega)
  have hmH2 := hmH.below hbJ
  clear hsH hnH hmH
  go_wp2_with fail
  ((with_reducible refine (HI.out AH AJ cH cJ _ (hmH2.rd rfl) (hmJ.rd rfl)).mono ?_); rintro e wK ⟨S', AK, cK, hMR', -, rfl, hoK, hbK⟩; obtain rfl : S = S' := HMR.out.unique hMR'; clear hMR')
  have gK := gtr gJ hbK
  have hzK := hbK.size
  have hsK := hsJ.below hbK (by omega)
  have hnK := hnJ.below hbK (by omega)
  go_wp2_with fail
  ((with_reducible refine (eqRows_any _ _ _ _ S S _ wJ.heap.size w2.heap.size _ (Nat.le_refl _) hoK.rd (hsK.more (by omega))).mono ?_); rintro e wL ⟨rfl, hbL⟩)
  have gL := gtr gK hbL
  have hzL := hbL.size
  have hnL := hnK.below hbL (by omega)
  go_wp2_with fail
  ((with_reducible refine (hheld.out wL _ (by omega) hnL).mono ?_); rintro e wM ⟨rfl, rfl⟩)
  go_wp2
  go_ret
  exact ⟨rfl, gL⟩
end Go.Proofs.Ytdckgplmkigjcaa
