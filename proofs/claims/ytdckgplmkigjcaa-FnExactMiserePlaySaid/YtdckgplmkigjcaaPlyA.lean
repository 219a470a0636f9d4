/- Several texts in one: XPlyI XPlyL XPlyS XPlyW. Conditions: none. -/
import Derived.Test.YtdckgplmkigjcaaMovL
import Derived.Lib.SliceRun
namespace Go.Proofs.Ytdckgplmkigjcaa
open Go.RowKit Go.Maps
set_option linter.unusedVariables false

set_option maxRecDepth 100000 in
theorem cloneO_any (A : Option Addr) (c : Nat) (xs : List Int) (w : World) (B : Nat) (hB : B ≤ w.heap.size) (h : RdI w B A c xs) (hl : xs.length ≤ 1000000) :
    Calls Try.prog 90 #[.slice A xs.length c] w (RetI w xs) := by
  rcases A with _ | a
  · have hx : xs = [] := by
      rcases xs with _ | ⟨x, xs⟩
      · rfl
      · obtain ⟨b, o, hbo, _⟩ := h.at (j := 0) (by simp)
        cases hbo
    subst hx
    have heq : ∀ w, (binOp .eql 22 (.slice none 0 c) (.slice none 0 0)).run Try.prog w = .ok (.bool true) w := fun w => Lib.run_eql_slice_nil (P := Try.prog) w 22 3 none 0 c 0 0 Try.underlying22
    go_enter Try.func90, Try.ntmps90
    go_wp2
    go_ret
    exact ⟨none, 0, rfl, own_nil _ _ _, Below.refl _ _⟩
  · have heq : ∀ w, (binOp .eql 22 (.slice (some a) xs.length c) (.slice none 0 0)).run Try.prog w = .ok (.bool false) w := fun w => Lib.run_eql_slice_nil (P := Try.prog) w 22 3 (some a) xs.length c 0 0 Try.underlying22
    have HO := Lib.hid (Own.empty w 3 3 w.heap.size (Nat.le_refl _))
    have HR := Lib.hid (h.below (bel1 w (.cells #[] 3)) hB)
    have hbA := bel1 w (.cells #[] 3)
    clear h
    go_enter Try.func90, Try.ntmps90
    go_wp2_with (at_builtin; refine wpList_append_rd rfl _ _ 22 3 (.int .i64 0) 8 rfl Try.underlying22 infoInt rfl (by omega) w.heap.size (.slice (some ⟨w.heap.size, 0, none⟩) 0 0) [] rfl HO.out B _ xs.length c (ints xs) rfl (by rw [ints_len]) HR.out (fun u hu => ints_one hu) (by rw [ints_len]; simp; omega) (by simp) ?_; intro A5 c5 w5 ho5 hb5 hg5; rw [ints_len, List.length_nil, Nat.zero_add] at ho5 ⊢)
    go_ret
    exact ⟨A5, c5, rfl, own_ints.2 ho5, hbA.trans hb5⟩

/-- What firstMove hands back. -/
def FmR (cs p : List Int) (w : World) (e : Ending) (w' : World) : Prop :=
  ((∃ q A3 c3, e = .returned (.tuple #[.slice A3 q.length c3, .bool true]) ∧ Fm cs p q ∧ OwnI w' w.heap.size (.slice A3 q.length c3) q) ∨
   (e = .returned (.tuple #[.slice none 0 0, .bool false]) ∧ ¬ ∃ q, optP cs p q)) ∧ Below w.heap.size w w'
set_option maxRecDepth 100000 in
set_option maxHeartbeats 1600000 in
theorem first_any (A A' : Option Addr) (c c' : Nat) (cs p : List Int) (w : World) (B : Nat) (hB : B ≤ w.heap.size) (hg : goodCode cs) (hp : Hp 20 p) (h : RdI w B A c cs) (h' : RdI w w.heap.size A' c' p) :
    Calls Try.prog 89 #[.slice A cs.length c, .slice A' p.length c'] w (FmR cs p w) := by
  have HP := Lib.hid hp
  have hlen := hp.len
  have HH := Lib.hid h; have HH' := Lib.hid h'; have HG := Lib.hid hg
  have hm1 := h'.max
  clear h h' hg hp
  go_enter Try.func89, Try.ntmps89
  go_wp2
  go_loopw [11] (fun s wr => ∃ i : Nat, s = .int .i64 i ∧ i ≤ p.length ∧ Below w.heap.size w wr ∧ ∀ j, j < i → ¬ ∃ mv, isMv cs (gi p j).toNat mv) (fun s _ => p.length - (intOf s).toNat)
  case atStart => exact ⟨0, rfl, by omega, Below.refl _ _, fun j hj => by omega⟩
  case round =>
    obtain ⟨i, rfl, hi, hb, hn⟩ := hrel
    have HN := Lib.hid hn; clear hn
    have hzr := hb.size
    by_cases hlt : i < p.length
    · have hx20 := HP.out.le (gi_mem hlt)
      obtain ⟨bb, o, rfl, hbB, hc⟩ := (HH'.out.below hb (Nat.le_refl _)).at (j := i) hlt
      have hcn := hc i hlt
      obtain ⟨x, hx⟩ := Int.eq_ofNat_of_zero_le (show 0 ≤ gi p i by omega)
      rw [hx] at hcn
      have hxx : x ≤ 20 := by omega
      have HXN : Hid ((gi p i).toNat = x) := Lib.hid (by omega)
      have HMV := Lib.hid (heapMoves_any A c cs x wr B (by omega) (HH.out.below hb hB) (by omega) HG.out)
      have HR2 := Lib.hid fun W (hW : Below w.heap.size w W) => HH'.out.below hW (Nat.le_refl _)
      clear hc hx hx20
      go_wp2_with fail
      ((with_reducible refine (HMV.out).mono ?_); rintro e w1 ⟨⟨v1, rfl, L, g1, c1, rfl, hL1, hL2, hL3, hL4, hL5, hL6⟩, hb1⟩)
      have g2 := hb.trans (hb1.mono hzr)
      have hz1 := hb1.size
      rcases L with _ | ⟨⟨v0, mv⟩, L'⟩
      · have HNX : Hid (∀ j, j < i + 1 → ¬ ∃ mv, isMv cs (gi p j).toNat mv) := Lib.hid fun j hj => by
          by_cases e : j = i
          · subst e
            rintro ⟨mv, hmv⟩
            rw [HXN.out] at hmv
            have := (hL6 mv).2 hmv
            cases this
          · exact HN.out j (by omega)
        have HG2 := Lib.hid g2
        rw [List.length_nil]
        clear hL1 hL2 hL3 hL4 hL5 hL6 g2 hb1
        go_wp2
        go_roundw
        case rel => exact ⟨i + 1, by go_num, by omega, HG2.out, HNX.out⟩
        case measure => simp [intOf]; omega
      · have hF := hL2.1 (v0, mv) List.mem_cons_self
        obtain ⟨⟨A0, c0, hv0⟩, ho0⟩ := hF
        dsimp only at hv0 ho0
        subst hv0
        have HFm : Hid (Fm cs p (aft p i mv)) := Lib.hid ⟨i, hlt, HN.out, _, hL4, fun y => by rw [HXN.out]; exact hL6 y, mv, _, rfl, rfl⟩
        have hmv : isMv cs x mv := (hL6 mv).1 List.mem_cons_self
        have hml := (isMv_pos hmv).2.2.1
        obtain ⟨A1, hA1⟩ : ∃ A1, A1 = some (⟨g1, 0, none⟩ : Addr) := ⟨_, rfl⟩
        have hrd : Rd w1 w1.heap.size (some ⟨g1, 0, none⟩) c1 _ := hL1.rd
        rw [← hA1] at hrd ⊢
        have hln := hrd.len
        rw [List.length_cons]
        obtain ⟨b1, o1, hbo, hbB1, hc⟩ := hrd.at (j := 0) (by simp)
        have q0 := hc 0 (.slice A0 mv.length c0) rfl
        rw [Nat.add_zero] at q0
        have q0' : w1.cell? ⟨b1, o1, none⟩ = some (.slice A0 mv.length c0) := q0
        subst hbo
        have HRP := Lib.hid (replaced_any (some ⟨bb, o, none⟩) A0 c' c0 i p mv w1 w1.heap.size (Nat.le_refl _) ((HR2.out w1 g2).more g2.size) (Own.rd ho0) hlt (by omega) (by omega))
        have HG2 := Lib.hid g2
        clear hL1 hL2 hL3 hL4 hL5 hL6 g2 hb1 hb hc q0 hrd ho0 hA1
        obtain ⟨ll, hll⟩ : ∃ ll, ll = L'.length := ⟨_, rfl⟩
        rw [← hll]
        clear hll
        go_wp2_with (go_at_call 108; (with_reducible refine (HRP.out).mono ?_); rintro e w3 ⟨A3, c3, rfl, ho3, hb3⟩)
        go_ret2
        exact ⟨.inl ⟨_, A3, c3, rfl, HFm.out, own_ints.2 ((own_ints.1 ho3).le HG2.out.size)⟩, gtr HG2.out hb3⟩
    · obtain rfl : i = p.length := by omega
      have HB := Lib.hid hb
      clear hb
      go_wp2
      go_ret2
      refine ⟨.inr ⟨rfl, ?_⟩, HB.out⟩
      rintro ⟨q, i, h1, mv, h2, h3⟩
      exact HN.out i h1 ⟨mv, h2⟩
def slLen : Value → Nat
  | .slice _ n _ => n
  | _ => 0
theorem Own.grownLw {w w' : World} {base b : Nat} {E : TypeId} {v : Value} {cs : List Value} (h : Own w base E v cs) (hg : w.grownBy w' (some b)) (hb : b < base) : Own w' base E v cs := by
  refine h.grown hg ?_
  rcases hob : v.ownBlock with _ | k
  · exact .inl rfl
  · refine .inr fun e => ?_
    injection e with e
    have := (h.lt k hob).1
    omega
theorem Nx.no {cs p : List Int} (h : ¬ ∃ q, optP cs p q) : Nx cs p none := .inl ⟨rfl, h⟩
theorem sm_ge {p : List Int} {N : Nat} (h : Hp N p) : 0 ≤ sm p := sm_nonneg fun x hx => by have := h.1 x hx; omega
set_option maxRecDepth 100000 in
set_option maxHeartbeats 3200000 in
theorem played_any (cs : List Int) (hg : goodCode cs) (Ac A' : Option Addr) (cc c' b : Nat) (ys : List Int) (w0 w : World) (K : List (List Int)) (hw : Below w0.heap.size w0 w) (hp : Hp 20 (nz ys)) (hy0 : ∀ x ∈ ys, 0 ≤ x) (hyl : ys.length ≤ 1000) (hk0 : w0.heap.size ≤ b) (hM : MapM w b cs K) (hcode : RdI w w0.heap.size Ac cc cs) (hr : RdI w w0.heap.size A' c' ys) :
    Calls Try.prog 61 #[.slice Ac cs.length cc, .slice A' ys.length c', .func (Fn.func 62) #[.agg #[.slice Ac cs.length cc, .map (some b)]] #[]] w fun e w' =>
      ∃ (D : List (List Int)) (A3 : Option Addr) (c3 : Nat), e = .returned (.slice A3 D.length c3) ∧ Pl cs (nz ys) D ∧ D.length ≤ 20 ∧ FrR w' w0.heap.size 22 3 (.slice A3 D.length c3) (D.map ints) ∧ Below w0.heap.size w0 w' := by
  have HP := Lib.hid hp; have HG := Lib.hid hg
  have hz0 := hw.size
  have hbA := bel1 w (.cells #[] 22)
  have hF := filled_any A' c' ys (w.alloc (.cells #[] 22)) w0.heap.size (by have := hbA.size; omega) (hr.below hbA hz0) hy0 (by omega)
  have hO : Own (w.alloc (.cells #[] 22)) w.heap.size 22 (.slice (some ⟨w.heap.size, 0, none⟩) 0 0) [] := Own.empty w 22 22 w.heap.size (Nat.le_refl _)
  have hbw := hM.lt
  have hM1 := hM.kept (belowG hbA none) (by simp)
  have hw1 := gtr hw hbA
  have HF := Lib.hid hF
  have HC := Lib.hid fun W (hW : Below w0.heap.size w W) => hcode.below hW (Nat.le_refl _)
  clear hF hcode hr hp hg hM
  go_enter Try.func61, Try.ntmps61
  go_wp2_with fail
  ((with_reducible refine (HF.out).mono ?_); rintro e w2 ⟨A2, c2, rfl, ho2, hb2⟩)
  have hM2 := hM1.kept (belowG hb2 none) (by simp)
  have hw2 := gtr hw1 hb2
  have hO2 := hO.below hb2
  have hr2 := ho2.rd rfl
  have hwk : Below w0.heap.size w w2 := (gtr hbA hb2).mono hz0
  have hbW2 := gtr hbA hb2
  clear hM1 hw1 hO ho2 hb2 hbA
  have hz1 := hw2.size
  obtain ⟨W, hW⟩ : ∃ W, W = w2 := ⟨_, rfl⟩
  obtain ⟨g, hge⟩ : ∃ g, g = w.heap.size := ⟨_, rfl⟩
  obtain ⟨l0, hl0⟩ : ∃ l0, l0 = w.heap.size := ⟨_, rfl⟩
  rw [← hge] at hO2 ⊢
  rw [hge, ← hl0] at hO2
  rw [← hl0] at hbw hz0
  have hlg : g = l0 := by omega
  rw [← hlg] at hO2
  have hO3 : Own w2 l0 22 (.slice (some ⟨g, 0, none⟩) 0 0) [] := by rw [hlg] at hO2 ⊢; exact hO2
  have hl2 : l0 ≤ w2.heap.size := by have := hbW2.size; omega
  clear hge hlg hO2 hl0 hbW2
  go_wp2
  go_loopw [1, 7] (fun v1 v7 wr => ∃ (p : List Int) (Ap : Option Addr) (cp : Nat) (D : List (List Int)) (Ao : Option Addr) (co : Nat) (K : List (List Int)), v1 = .slice Ap p.length cp ∧ v7 = .slice Ao D.length co ∧ Pd cs (nz ys) D p ∧ RdI wr wr.heap.size Ap cp p ∧ FrR wr l0 22 3 (.slice Ao D.length co) (D.map ints) ∧ MapM wr b cs K ∧ Below w0.heap.size w0 wr ∧ Below w0.heap.size w wr ∧ l0 ≤ wr.heap.size) (fun _ v7 _ => 21 - slLen v7)
  case atStart => exact ⟨nz ys, A2, c2, [], some ⟨g, 0, none⟩, 0, K, rfl, rfl, .start, hr2, FrR.nil hO3, hM2, hw2, hwk, hl2⟩
  case round =>
    clear hM2 hw2 hO3 hr2 hwk hW hz1 hl2
    obtain ⟨p, Ap, cp, D, Ao, co, K, rfl, rfl, hPd, hrp, ⟨rows, hFR⟩, hM, hb, hbk, hlr⟩ := hrel
    obtain ⟨hpp, hDs, hDl⟩ := hPd.len HP.out
    have hys := HP.out.2.2
    have hsp := sm_ge hpp
    have hD20 : D.length ≤ 20 := by omega
    have HPP := Lib.hid hpp; have HPd := Lib.hid hPd
    have HRL : Hid (rows.length = D.length) := Lib.hid (by rw [hFR.2.1.1, List.length_map])
    have HFR := Lib.hid hFR; have HM := Lib.hid hM; have HB := Lib.hid hb; have HBK := Lib.hid hbk
    have hzw := hb.size
    have hML := hM.lt
    have HFI := Lib.hid (first_any Ac Ap cc cp cs p wr w0.heap.size hzw HG.out hpp (HC.out wr hbk) hrp)
    have HRP := Lib.hid hrp
    clear hPd hrp hFR hM hb hbk hpp hDs hDl hsp hys
    go_wp2_with fail
    ((with_reducible refine (HFI.out).mono ?_); rintro e w3 ⟨⟨q, A3, c3, rfl, hFm, ho3⟩ | ⟨rfl, hno⟩, hb3⟩)
    · have hpz : p = nz p := (nz_self HPP.out.1).symm
      have HFm := Lib.hid hFm
      have hHL := losing_any cs HG.out Ac cc w0.heap.size b hk0 p p w3 Ap cp K hpz HPP.out (fun x hx => by have := HPP.out.1 x hx; omega) (by have := HPP.out.len; omega) (HM.out.kept (belowG hb3 none) (by simp)) (HC.out w3 (HBK.out.trans (hb3.mono hzw))) ((HRP.out.below hb3 (Nat.le_refl _)).more hb3.size)
      have HHL := Lib.hid hHL
      have hz3 := hb3.size
      have HF3 := Lib.hid (show FrR w3 l0 22 3 (.slice Ao D.length co) (D.map ints) from FrR.below ⟨rows, HFR.out⟩ hb3)
      clear hpz hFm hHL
      go_wp2_with fail
      ((with_reducible refine (HHL.out).mono ?_); rintro e w4 ⟨⟨v, rfl, L, g4, c4, rfl, hL1, hL2, hL3, hL4, hL5, hL6⟩, ⟨K4, hM4⟩, hg4⟩)
      have hz4 := hg4.size
      obtain ⟨rows4, hF4⟩ := HF3.out.grownF hg4 (fun k hk => by injection hk with hk; omega)
      have HF4 := Lib.hid hF4
      have HRL4 : Hid (rows4.length = D.length) := Lib.hid (by rw [hF4.2.1.1, List.length_map])
      have HM4 := Lib.hid hM4
      have HB4 := Lib.hid ((HB.out.trans (hb3.mono hzw)).grown hg4 (by omega) fun k hk => by injection hk with hk; omega)
      have HK4 := Lib.hid ((HBK.out.trans (hb3.mono hzw)).grown hg4 (by omega) fun k hk => by injection hk with hk; omega)
      rcases L with _ | ⟨⟨v0, mv⟩, L'⟩
      · have HNX : Hid (Nx cs p (some q)) := Lib.hid (.inr (.inr ⟨q, rfl, ⟨hL4, hL6⟩, HFm.out⟩))
        have hoN : Own w4 wr.heap.size 3 (.slice A3 q.length c3) (ints q) := Own.grownLw (own_ints.1 ho3) hg4 hML
        have hql : q.length ≤ 20 := (hp_opt HPP.out HNX.out.opt).1.len
        rw [List.length_nil]
        clear hL1 hL2 hL3 hL4 hL5 hL6 hF4 hM4 hg4 ho3 hb3
        have HON := Lib.hid hoN
        have HRQ := Lib.hid (show RdI w4 w4.heap.size A3 c3 q from Own.rd hoN)
        clear hoN
        go_wp2_with (first
          | (go_at_call 90; (with_reducible refine (cloneO_any A3 c3 q w4 w4.heap.size (Nat.le_refl _) HRQ.out (by omega)).mono ?_); rintro e w5 ⟨A7, c7, rfl, ho5, hb5⟩; have hz5 := hb5.size; have hO5 := (HF4.out.1.below (gtr hb5 (bel1 w5 (.cells #[.slice A7 q.length c7] 22)))))
          | (at_builtin; refine wpList_append_at rfl _ _ 32 22 (.slice none 0 0) 24 rfl Try.underlying32 infoRow rfl (by omega) l0 (.slice Ao D.length co) rows4 rfl hO5 (w5.heap.size + 1) (some ⟨w5.heap.size, 0, none⟩) 1 1 [.slice A7 q.length c7] rfl rfl (Rd.of_blk (Blk.new_at _ _ _ rfl) (Nat.lt_succ_self _)) (fun u hu => by simp at hu; subst hu; rfl) (by rw [HRL4.out]; simp; omega) (by simp; omega) ?_; intro A8 c8 w8 ho8 hb8 hg8 hp8; rw [HRL4.out, List.length_singleton] at ho8 hp8 ⊢))
        have HFN : Hid (FrR w8 l0 22 3 (.slice A8 (D.length + 1) c8) (D.map ints ++ [ints q])) := Lib.hid (FrR.push HF4.out (by omega) hb5 (own_ints.1 ho5) (bel1 w5 (.cells #[.slice A7 q.length c7] 22)) ho8 hg8 hp8)
        have g8 := (gtr hb5 (bel1 w5 (.cells #[.slice A7 q.length c7] 22)))
        have hz8 := hg8.size
        simp at hz8
        have hlow : ∀ j, (Value.slice Ao D.length co).ownBlock = some j → l0 ≤ j ∧ j < wr.heap.size := fun j hj => HFR.out.1.lt j hj
        have HM8 := Lib.hid ((HM4.out.kept (belowG g8 none) (by simp)).kept hg8 (fun e => by have := hlow b e.symm; omega))
        have HP8 : Hid (Own w8 wr.heap.size 3 (.slice A3 q.length c3) (ints q)) := Lib.hid ((HON.out.below g8).grown hg8 (by
          rcases hob : (Value.slice A3 q.length c3).ownBlock with _ | k
          · exact .inl rfl
          · refine .inr fun e => ?_
            have h1 := (HON.out.lt k hob).1
            have h2 := (hlow k e.symm).2
            omega))
        have HB8 := Lib.hid ((HB4.out.trans (g8.mono (by omega))).grown hg8 (by simp; omega) fun j hj => by have := (hlow j hj).1; omega)
        have HK8 := Lib.hid ((HK4.out.trans (g8.mono (by omega))).grown hg8 (by simp; omega) fun j hj => by have := (hlow j hj).1; omega)
        clear ho8 hb8 hg8 hp8 hO5 hb5 ho5 g8 hlow
        go_wp2
        go_roundw
        case rel => exact ⟨q, A3, c3, D ++ [q], A8, c8, K4, rfl, by rw [List.length_append, List.length_singleton], .step D p q HPd.out HNX.out, Own.rd HP8.out, by rw [List.map_append, List.length_append, List.length_singleton]; exact HFN.out, HM8.out, HB8.out, HK8.out, by omega⟩
        case measure => simp [slLen]; omega
      · have hF := hL2.1 (v0, mv) List.mem_cons_self
        obtain ⟨⟨A0, c0, hv0⟩, ho0⟩ := hF
        dsimp only at hv0 ho0
        subst hv0
        have HNX : Hid (Nx cs p (some mv)) := Lib.hid (.inr (.inl ⟨mv, _, rfl, hL4, hL6⟩))
        have hoN : Own w4 wr.heap.size 3 (.slice A0 mv.length c0) (ints mv) := ho0.le hz3
        have hql : mv.length ≤ 20 := (hp_opt HPP.out HNX.out.opt).1.len
        obtain ⟨A1, hA1⟩ : ∃ A1, A1 = some (⟨g4, 0, none⟩ : Addr) := ⟨_, rfl⟩
        have hrd : Rd w4 w4.heap.size (some ⟨g4, 0, none⟩) c4 _ := hL1.rd
        rw [← hA1] at hrd ⊢
        have hln := hrd.len
        rw [List.length_cons]
        obtain ⟨b1, o1, hbo, hbB1, hc⟩ := hrd.at (j := 0) (by simp)
        have q0 := hc 0 (.slice A0 mv.length c0) rfl
        rw [Nat.add_zero] at q0
        have q0' : w4.cell? ⟨b1, o1, none⟩ = some (.slice A0 mv.length c0) := q0
        subst hbo
        obtain ⟨ll, hll⟩ : ∃ ll, ll = L'.length := ⟨_, rfl⟩
        rw [← hll]
        clear hL1 hL2 hL3 hL4 hL5 hL6 hF4 hM4 hg4 ho3 hb3 hll hc q0 hrd ho0 hA1
        have HON := Lib.hid hoN
        have HRQ := Lib.hid (show RdI w4 w4.heap.size A0 c0 mv from Own.rd hoN)
        clear hoN
        go_wp2_with (first
          | (go_at_call 90; (with_reducible refine (cloneO_any A0 c0 mv w4 w4.heap.size (Nat.le_refl _) HRQ.out (by omega)).mono ?_); rintro e w5 ⟨A7, c7, rfl, ho5, hb5⟩; have hz5 := hb5.size; have hO5 := (HF4.out.1.below (gtr hb5 (bel1 w5 (.cells #[.slice A7 mv.length c7] 22)))))
          | (at_builtin; refine wpList_append_at rfl _ _ 32 22 (.slice none 0 0) 24 rfl Try.underlying32 infoRow rfl (by omega) l0 (.slice Ao D.length co) rows4 rfl hO5 (w5.heap.size + 1) (some ⟨w5.heap.size, 0, none⟩) 1 1 [.slice A7 mv.length c7] rfl rfl (Rd.of_blk (Blk.new_at _ _ _ rfl) (Nat.lt_succ_self _)) (fun u hu => by simp at hu; subst hu; rfl) (by rw [HRL4.out]; simp; omega) (by simp; omega) ?_; intro A8 c8 w8 ho8 hb8 hg8 hp8; rw [HRL4.out, List.length_singleton] at ho8 hp8 ⊢))
        have HFN : Hid (FrR w8 l0 22 3 (.slice A8 (D.length + 1) c8) (D.map ints ++ [ints mv])) := Lib.hid (FrR.push HF4.out (by omega) hb5 (own_ints.1 ho5) (bel1 w5 (.cells #[.slice A7 mv.length c7] 22)) ho8 hg8 hp8)
        have g8 := (gtr hb5 (bel1 w5 (.cells #[.slice A7 mv.length c7] 22)))
        have hz8 := hg8.size
        simp at hz8
        have hlow : ∀ j, (Value.slice Ao D.length co).ownBlock = some j → l0 ≤ j ∧ j < wr.heap.size := fun j hj => HFR.out.1.lt j hj
        have HM8 := Lib.hid ((HM4.out.kept (belowG g8 none) (by simp)).kept hg8 (fun e => by have := hlow b e.symm; omega))
        have HP8 : Hid (Own w8 wr.heap.size 3 (.slice A0 mv.length c0) (ints mv)) := Lib.hid ((HON.out.below g8).grown hg8 (by
          rcases hob : (Value.slice A0 mv.length c0).ownBlock with _ | k
          · exact .inl rfl
          · refine .inr fun e => ?_
            have h1 := (HON.out.lt k hob).1
            have h2 := (hlow k e.symm).2
            omega))
        have HB8 := Lib.hid ((HB4.out.trans (g8.mono (by omega))).grown hg8 (by simp; omega) fun j hj => by have := (hlow j hj).1; omega)
        have HK8 := Lib.hid ((HK4.out.trans (g8.mono (by omega))).grown hg8 (by simp; omega) fun j hj => by have := (hlow j hj).1; omega)
        clear ho8 hb8 hg8 hp8 hO5 hb5 ho5 g8 hlow
        go_wp2
        go_roundw
        case rel => exact ⟨mv, A0, c0, D ++ [mv], A8, c8, K4, rfl, by rw [List.length_append, List.length_singleton], .step D p mv HPd.out HNX.out, Own.rd HP8.out, by rw [List.map_append, List.length_append, List.length_singleton]; exact HFN.out, HM8.out, HB8.out, HK8.out, by omega⟩
        case measure => simp [slLen]; omega
    · have HNO := Lib.hid (HPd.out.fin [] (.done p (Nx.no hno)))
      have hfr : FrR w3 l0 22 3 (.slice Ao D.length co) (D.map ints) := FrR.below ⟨rows, HFR.out⟩ hb3
      have HFF := Lib.hid hfr
      clear hfr hno
      go_wp2
      go_ret
      exact ⟨D, Ao, co, rfl, by rw [List.append_nil] at HNO; exact HNO.out, hD20, HFF.out.le hz0, HB.out.trans (hb3.mono hzw)⟩
end Go.Proofs.Ytdckgplmkigjcaa
namespace Go.Proofs.Ytdckgplmkigjcaa
open Go.RowKit Go.Maps
set_option linter.unusedVariables false

/-- What MiserePlay hands back. -/
def PlR (cs p : List Int) (S : List (List Int)) : Prop := (smallB cs p 20 = false ∧ S = []) ∨ (smallB cs p 20 = true ∧ Pl cs (nz p) S)
theorem PlR.unique {cs p : List Int} {S T : List (List Int)} (h : PlR cs p S) (k : PlR cs p T) : S = T := by
  rcases h with ⟨h1, h2⟩ | ⟨h1, h2⟩ <;> rcases k with ⟨k1, k2⟩ | ⟨k1, k2⟩
  · rw [h2, k2]
  · rw [h1] at k1; cases k1
  · rw [h1] at k1; cases k1
  · exact h2.unique k2
theorem pl_rows {cs : List Int} : ∀ {P : List (List Int)} {p : List Int}, Pl cs p P → Hp 20 p → ∀ q ∈ P, q.length ≤ 20
  | [], p, _, _ => fun q hq => by cases hq
  | r :: P, p, h, hp => by
    cases h with
    | go _ _ _ h h' =>
      have h1 := (hp_opt hp h.opt).1
      intro q hq
      rcases List.mem_cons.1 hq with rfl | hq
      · exact h1.len
      · exact pl_rows h' h1 q hq
theorem PlR.row {cs p : List Int} {S : List (List Int)} (h : PlR cs p S) : ∀ q ∈ S, q.length ≤ 20 := by
  rcases h with ⟨_, rfl⟩ | ⟨h1, h2⟩
  · intro q hq; cases hq
  · obtain ⟨g1, g2, g3⟩ := smallB_of h1
    exact pl_rows h2 (hp_nz g2 g3)

set_option maxHeartbeats 800000 in
theorem playI_any (A A' : Option Addr) (c c' : Nat) (cs p : List Int) (w : World) (B : Nat) (hB : B ≤ w.heap.size) (h : RdI w B A c cs) (h' : RdI w B A' c' p) :
    Calls Try.prog 20 #[.slice A cs.length c, .slice A' p.length c'] w fun e w' => ∃ (S : List (List Int)) (A3 : Option Addr) (c3 : Nat), PlR cs p S ∧ S.length ≤ 20 ∧ e = .returned (.tuple #[.slice A3 S.length c3, .bool (smallB cs p 20)]) ∧ FrR w' w.heap.size 22 3 (.slice A3 S.length c3) (S.map ints) ∧ Below w.heap.size w w' := by
  have HS := Lib.hid (smallI_any A A' c c' cs p 20 w B h h')
  rcases hs : smallB cs p 20 with _ | _
  · rw [hs] at HS
    have HR : Hid (PlR cs p []) := Lib.hid (.inl ⟨hs, rfl⟩)
    clear hs
    go_enter Try.func20, Try.ntmps20
    go_wp2_with (go_at_call 60; (with_reducible refine (HS.out).mono ?_); rintro e w1 ⟨rfl, rfl⟩)
    go_ret2
    exact ⟨[], none, 0, HR.out, by simp, rfl, FrR.nil (own_nil _ _ _), Below.refl _ _⟩
  · rw [hs] at HS
    obtain ⟨g1, g2, g3⟩ := smallB_of hs
    have HW := Lib.hid hs
    have HG1 := Lib.hid g1; have HP := Lib.hid (hp_nz g2 g3); have HH := Lib.hid (h.more hB); have HH' := Lib.hid (h'.more hB); have HG2 := Lib.hid (goodH_pos g2)
    have hpl := g2.1
    clear hs g1 g2 g3 h h'
    go_enter Try.func20, Try.ntmps20
    go_wp2_with (first
      | (go_at_call 60; (with_reducible refine (HS.out).mono ?_); rintro e w1 ⟨rfl, rfl⟩)
      | (go_at_call 53; (with_reducible refine (newM_any A c cs _).mono ?_); rintro e w2 ⟨b, rfl, hbw, hM2, hb2⟩; have hv := played_any cs HG1.out A A' c c' b p w1 w2 [] hb2 HP.out HG2.out (by omega) hbw hM2 (HH.out.below hb2 (Nat.le_refl _)) (HH'.out.below hb2 (Nat.le_refl _)))
      | (go_at_call 61; (with_reducible refine (hv).mono ?_); rintro e w4 ⟨S, A3, c3, rfl, hPl, hle, hF, hb4⟩))
    go_ret2
    exact ⟨S, A3, c3, .inr ⟨HW.out, hPl⟩, hle, rfl, hF, hb4⟩
end Go.Proofs.Ytdckgplmkigjcaa
namespace Go.Proofs.Ytdckgplmkigjcaa
open Go.RowKit Go.Maps
set_option linter.unusedVariables false

theorem RdR.head {w : World} {lo B c : Nat} {A : Option Addr} {mv : List Int} {xss : List (List Int)} (h : RdR w lo B A c (mv :: xss)) :
    ∃ b o A0 c0, A = some ⟨b, o, none⟩ ∧ b < B ∧ w.cell? ⟨b, o, none⟩ = some (.slice A0 mv.length c0) ∧ RdI w B A0 c0 mv ∧ Lo lo A0 := by
  obtain ⟨cs, h1, hl, h2⟩ := h
  obtain ⟨b, o, hA, hb, hc⟩ := h1.at (j := 0) (by rw [h2.1]; simp)
  obtain ⟨Ai, ci, k1, k2, k3⟩ := h2.2 0 (by simp)
  exact ⟨b, o, Ai, ci, hA, hb, hc 0 _ k1, k2, k3⟩
theorem Rd.keepNe {w w' : World} {B c : Nat} {A : Option Addr} {cs : List Value} {row : Option Nat} (h : Rd w B A c cs) (hg : w.grownBy w' row) (hB : B ≤ w.heap.size) (hn : ∀ a, A = some a → 0 < cs.length → row ≠ some a.block) : Rd w' B A c cs :=
  ⟨h.1, h.2.1, h.2.2.1, fun j hj => by
    obtain ⟨b, o, hA, hb, hc⟩ := h.2.2.2 j hj
    exact ⟨b, o, hA, hb, fun i u hi => (World.cell?_of_block (w := w) (a := ⟨b, o + i, none⟩) (hg.block b (by omega) fun e => hn _ hA (by omega) e.symm)).trans (hc i u hi)⟩⟩
/-- The rows of a slice at A are read, none of them in the slice's own block. -/
def RwX (w : World) (lo : Nat) (A : Option Addr) (rows : List Value) (D : List (List Int)) : Prop :=
  rows.length = D.length ∧ ∀ i, i < D.length → ∃ Ai ci, rows[i]? = some (.slice Ai (gl D i).length ci) ∧ RdI w w.heap.size Ai ci (gl D i) ∧ Lo lo Ai ∧ ∀ a, Ai = some a → 0 < (gl D i).length → ∀ a', A = some a' → a.block ≠ a'.block
theorem RwX.nil {w : World} {lo : Nat} {A : Option Addr} : RwX w lo A [] [] := ⟨rfl, fun i hi => absurd hi (by simp)⟩
theorem RwX.rows {w : World} {lo : Nat} {A : Option Addr} {rows : List Value} {D : List (List Int)} (h : RwX w lo A rows D) : RowsAt w lo w.heap.size rows D :=
  ⟨h.1, fun i hi => by obtain ⟨Ai, ci, h1, h2, h3, _⟩ := h.2 i hi; exact ⟨Ai, ci, h1, h2, h3⟩⟩
theorem RwX.keep {w w' : World} {lo : Nat} {A : Option Addr} {rows : List Value} {D : List (List Int)} (h : RwX w lo A rows D) (hk : ∀ A c xs, RdI w w.heap.size A c xs → Lo lo A → RdI w' w'.heap.size A c xs) : RwX w' lo A rows D :=
  ⟨h.1, fun i hi => by obtain ⟨Ai, ci, h1, h2, h3, h4⟩ := h.2 i hi; exact ⟨Ai, ci, h1, hk _ _ _ h2 h3, h3, h4⟩⟩
theorem rd_block {w : World} {B c : Nat} {a : Addr} {xs : List Int} (h : RdI w B (some a) c xs) (h0 : 0 < xs.length) : a.block < B := by
  obtain ⟨b, o, hA, hb, _⟩ := h.at (j := 0) h0
  injection hA with hA
  subst hA
  exact hb
theorem gl_snoc (D : List (List Int)) (q : List Int) (i : Nat) (hi : i < D.length + 1) : gl (D ++ [q]) i = if i < D.length then gl D i else q := by
  split
  · rename_i h
    simp [gl, List.getElem?_append_left h]
  · rename_i h
    have : i = D.length := by omega
    subst this
    simp [gl]
theorem RwX.push {w w' : World} {lo lw n c8 c3 co : Nat} {Ao A8 A3 : Option Addr} {rows : List Value} {D : List (List Int)} {q : List Int} (h : RwX w lo Ao rows D) (hr : RdI w w.heap.size A3 c3 q) (hlo : Lo lw A3) (hll : lo ≤ lw) (hout : ∀ a, Ao = some a → a.block < lw)
    (hg : w.grownBy w' (Value.slice Ao n co).ownBlock) (hp : (Value.slice A8 (n + 1) c8).ownBlock = (Value.slice Ao n co).ownBlock ∨ (Value.slice A8 (n + 1) c8).ownBlock = some w.heap.size)
    (hA : ∀ a, (Value.slice Ao n co).ownBlock = some a → ∃ a', Ao = some a' ∧ a'.block = a) (hA8 : ∀ a, A8 = some a → (Value.slice A8 (n + 1) c8).ownBlock = some a.block) :
    RwX w' lo A8 (rows ++ [.slice A3 q.length c3]) (D ++ [q]) := by
  have key : ∀ A c xs, RdI w w.heap.size A c xs → (∀ a, A = some a → 0 < xs.length → ∀ a', Ao = some a' → a.block ≠ a'.block) →
      RdI w' w'.heap.size A c xs ∧ ∀ a, A = some a → 0 < xs.length → ∀ a', A8 = some a' → a.block ≠ a'.block := by
    intro A c xs k hn
    refine ⟨?_, fun a ha h0 a' ha' e => ?_⟩
    · refine Rd.more (Rd.keepNe k hg (Nat.le_refl _) fun a ha h0 e => ?_) hg.size
      rw [ints_len] at h0
      obtain ⟨a', ha', hb'⟩ := hA _ e
      exact hn a ha h0 a' ha' hb'.symm
    · have h8 := hA8 a' ha'
      rcases hp with hp | hp
      · rw [hp] at h8
        obtain ⟨a'', ha'', hb''⟩ := hA _ h8
        exact hn a ha h0 a'' ha'' (by omega)
      · rw [hp] at h8
        injection h8 with h8
        subst ha
        have := rd_block k h0
        omega
  refine ⟨by rw [List.length_append, List.length_append, h.1]; rfl, fun i hi => ?_⟩
  rw [List.length_append, List.length_singleton] at hi
  rw [gl_snoc D q i hi]
  by_cases hl : i < D.length
  · rw [if_pos hl]
    obtain ⟨Ai, ci, h1, h2, h3, h4⟩ := h.2 i hl
    obtain ⟨k1, k2⟩ := key Ai ci _ h2 h4
    exact ⟨Ai, ci, by rw [List.getElem?_append_left (by rw [h.1]; exact hl)]; exact h1, k1, h3, k2⟩
  · rw [if_neg hl]
    have e : i = rows.length := by rw [h.1]; omega
    obtain ⟨k1, k2⟩ := key A3 c3 q hr fun a ha _ a' ha' => by have := hlo a ha; have := hout a' ha'; omega
    exact ⟨A3, c3, by subst e; simp, k1, hlo.le hll, k2⟩

theorem Nx.none_of {cs p : List Int} (h : ∀ j, j < p.length → ¬ ∃ mv, isMv cs (gi p j).toNat mv) : Nx cs p none := .inl ⟨rfl, fun ⟨q, i, h1, mv, h2, h3⟩ => h i h1 ⟨mv, h2⟩⟩
/-- The state of the inner search. -/
def SrS (cs p : List Int) (lw : Nat) (w : World) (v10 v11 : Value) (i : Nat) : Prop :=
  (v11 = .bool false ∧ Wn cs p [] ∧ ∀ j, j < i → ¬ ∃ mv, isMv cs (gi p j).toNat mv) ∨
  (∃ q A3 c3, v11 = .bool true ∧ v10 = .slice A3 q.length c3 ∧ Nx cs p (some q) ∧ RdI w w.heap.size A3 c3 q ∧ Lo lw A3)
theorem SrS.below {cs p : List Int} {lw i : Nat} {w w' : World} {v10 v11 : Value} (h : SrS cs p lw w v10 v11 i) (hb : Below w.heap.size w w') : SrS cs p lw w' v10 v11 i := by
  rcases h with h | ⟨q, A3, c3, h1, h2, h3, h4, h5⟩
  · exact .inl h
  · exact .inr ⟨q, A3, c3, h1, h2, h3, (h4.below hb (Nat.le_refl _)).more hb.size, h5⟩
set_option maxRecDepth 100000 in
set_option maxHeartbeats 3200000 in
theorem playS_ok (A A' : Option Addr) (c c' : Nat) (cs ys : List Int) (w : World) (B : Nat) (hB : B ≤ w.heap.size) (h : RdI w B A c cs) (h' : RdI w B A' c' ys) (hs : smallB cs ys 20 = true) :
    Calls Try.prog 19 #[.slice A cs.length c, .slice A' ys.length c'] w fun e w' => ∃ (S : List (List Int)) (A3 : Option Addr) (c3 : Nat), Pl cs (nz ys) S ∧ S.length ≤ 20 ∧ e = .returned (.tuple #[.slice A3 S.length c3, .bool true]) ∧ RdR w' w.heap.size w'.heap.size A3 c3 S ∧ Below w.heap.size w w' := by
  have HS := Lib.hid (goodS_any A A' c c' cs ys w B hB h h')
  rw [hs] at HS
  obtain ⟨g1, g2, g3⟩ := smallB_of hs
  have HG := Lib.hid g1; have HP := Lib.hid (hp_nz g2 g3); have HH := Lib.hid h; have HH' := Lib.hid h'
  have HSO := Lib.hid (nz_sorted g2)
  have hpl := g2.1
  clear hs g1 g2 g3 h h'
  go_enter Try.func19, Try.ntmps19
  go_wp2_with (first
    | (go_at_call 55; (with_reducible refine (HS.out).mono ?_); rintro e w1 ⟨rfl, hb1⟩)
    | (go_at_call 48; (with_reducible refine (new_any A c cs _).mono ?_); rintro e w2 ⟨g, gk, gv, rfl, hl1, hl2, hl3, hM2, hb2⟩; have hb12 := gtr hb1 hb2)
    | (go_at_call 56; (with_reducible refine (sortS_any A' c' ys w2 B (by have := hb12.size; omega) (HH'.out.below hb12 hB) (by omega)).mono ?_); rw [HSO.out]; rintro e w3 ⟨A3, c3, rfl, ho3, hb3⟩))
  have hz1 := hb1.size
  have hz2 := hb2.size
  have hz3 := hb3.size
  have hM3 := hM2.below hb3
  have hgl := hM2.lt
  have hw3 := gtr hb12 hb3
  obtain ⟨l1, hl1'⟩ : ∃ l1, l1 = w2.heap.size := ⟨_, rfl⟩
  have hbA := bel1 w3 (.cells #[] 22)
  have hr3 : RdI w3 w3.heap.size A3 c3 (nz ys) := ho3.rd rfl
  have hlo3 := Lo.ownI ho3
  rw [← hl1'] at hlo3 hgl
  have hw4 := gtr hw3 hbA
  have hM4 := hM3.below hbA
  have hr4 := (hr3.below hbA (Nat.le_refl _)).more hbA.size
  have hO4 : Own (w3.alloc (.cells #[] 22)) l1 22 (.slice (some ⟨w3.heap.size, 0, none⟩) 0 0) [] := Own.empty w3 22 22 l1 (by omega)
  have hl14 : l1 ≤ (w3.alloc (.cells #[] 22)).heap.size := by have := hbA.size; omega
  have hwl : w.heap.size ≤ l1 := by omega
  have hgk0 : w.heap.size ≤ gk := by omega
  have hgv0 : w.heap.size ≤ gv := by omega
  obtain ⟨g3, hg3⟩ : ∃ g3, g3 = w3.heap.size := ⟨_, rfl⟩
  rw [← hg3] at hO4 ⊢
  clear hM2 hM3 hw3 hb12 hb1 hb2 hb3 ho3 hr3 hz1 hz2 hz3 hl1' hl1 hl2 hl3 hbA
  generalize w3.alloc (.cells #[] 22) = W at *
  clear hg3
  obtain ⟨hglt, hgkl, hgvl⟩ := hgl
  go_loopw [7, 8] (fun v7 v8 wr => ∃ (p : List Int) (Ap : Option Addr) (cp : Nat) (D : List (List Int)) (Ao : Option Addr) (co : Nat) (rows : List Value) (ks vs : List Int), v7 = .slice Ap p.length cp ∧ v8 = .slice Ao D.length co ∧ Pd cs (nz ys) D p ∧ RdI wr wr.heap.size Ap cp p ∧ Lo l1 Ap ∧ Own wr l1 22 (.slice Ao D.length co) rows ∧ RwX wr l1 Ao rows D ∧ BookM wr g gk gv A c cs ks vs ∧ Below w.heap.size w wr ∧ l1 ≤ wr.heap.size) (fun _ v8 _ => 21 - (match v8 with | .slice _ n _ => n | _ => 0))
  case atStart => exact ⟨nz ys, A3, c3, [], some ⟨g3, 0, none⟩, 0, [], _, _, rfl, rfl, .start, hr4, hlo3, hO4, RwX.nil, hM4, hw4, hl14⟩
  case round =>
    clear hM4 hw4 hr4 hlo3 hO4 hl14
    obtain ⟨p, Ap, cp, D, Ao, co, rows, ks, vs, rfl, rfl, hPd, hrp, hlp, hO, hX, hM, hb, hlr⟩ := hrel
    obtain ⟨hpp, hDs, hDl⟩ := hPd.len HP.out
    have hys := HP.out.2.2
    have hsp : 0 ≤ sm p := sm_nonneg fun x hx => by have := hpp.1 x hx; omega
    have hD20 : D.length ≤ 20 := by omega
    have hp20 := hpp.len
    have hzw := hb.size
    have HPP := Lib.hid hpp; have HPd := Lib.hid hPd; have HLP := Lib.hid hlp
    have HO := Lib.hid hO; have HX := Lib.hid hX; have HM := Lib.hid hM; have HB := Lib.hid hb
    have HMV := Lib.hid (movesB_any cs HG.out A c B g gk gv (by omega) (by omega) p wr Ap cp ks vs hpp hM (HH.out.below hb hB) hrp (fun a ha => by have := hlp a ha; exact ⟨by omega, by omega⟩))
    have HRP := Lib.hid hrp
    clear hPd hrp hlp hO hX hM hb hpp hDs hDl hsp hys
    go_wp2_with fail
    ((with_reducible refine (HMV.out).mono ?_); rintro e w4 ⟨⟨v, rfl, M, AM, cM, rfl, hrM, hsM, hlM, hmM⟩, ⟨ks4, vs4, hM4⟩, hT4⟩)
    have hz4 := hT4.size
    have hlow : ∀ j, (Value.slice Ao D.length co).ownBlock = some j → l1 ≤ j ∧ j < wr.heap.size := fun j hj => HO.out.lt j hj
    have HLOW := Lib.hid hlow
    have HRLN : Hid (rows.length = D.length) := Lib.hid HX.out.1
    have hO4 := HO.out.tw hT4 (fun k hk => by have := hlow k hk; exact ⟨by omega, by omega⟩)
    have hX4 : RwX w4 l1 Ao rows D := HX.out.keep fun A c xs k kl => (RdI.tw k hT4 (Nat.le_refl _) (fun a ha => by have := kl a ha; exact ⟨by omega, by omega⟩)).more hz4
    have hrp4 : RdI w4 w4.heap.size Ap cp p := (HRP.out.tw hT4 (Nat.le_refl _) (fun a ha => by have := HLP.out a ha; exact ⟨by omega, by omega⟩)).more hz4
    have hb4 := Tw.below HB.out hT4 hgk0 hgv0
    have hbA := bel1 w4 (.cells #[] 3)
    have hO5 := HO.out
    have hzA : w4.heap.size ≤ (w4.alloc (.cells #[] 3)).heap.size := hbA.size
    have HO5 := Lib.hid (hO4.below hbA)
    have HX5 := Lib.hid (hX4.keep fun A c xs k kl => (RdI.below k hbA (Nat.le_refl _)).more hzA)
    have HRP5 := Lib.hid ((hrp4.below hbA (Nat.le_refl _)).more hzA)
    have HB5 := Lib.hid (gtr hb4 hbA)
    have HM5 := Lib.hid (hM4.below hbA)
    have hrM5 := hrM.below hbA (Nat.le_refl _)
    obtain ⟨lw, hlw⟩ : ∃ lw, lw = wr.heap.size := ⟨_, rfl⟩
    rw [← hlw] at hrM5 HLOW
    have hzl : lw ≤ w4.heap.size := by omega
    have hz5 : lw ≤ (w4.alloc (.cells #[] 3)).heap.size := by omega
    have hl1w : l1 ≤ lw := by omega
    have hq4 := w4.heap.size
    rcases M with _ | ⟨mv, rest⟩
    · have HST : Hid (SrS cs p lw (w4.alloc (.cells #[] 3)) (.slice (some ⟨w4.heap.size, 0, none⟩) 0 0) (.bool false) 0) := Lib.hid (.inl ⟨rfl, ⟨hsM, hmM⟩, fun j hj => by omega⟩)
      rw [List.length_nil]
      obtain ⟨h4, hh4⟩ : ∃ h4, h4 = w4.heap.size := ⟨_, rfl⟩
      rw [← hh4] at HST
      clear hrM5
      clear hq4 hlow hO4 hX4 hrp4 hb4 hbA hO5 hrM hsM hlM hmM hM4 hT4 hzA hlw hz4 hzl HRP HO HX HM HB
      go_wp2
      rw [← hh4]
      clear hh4
      generalize w4.alloc (.cells #[] 3) = w5 at *
      go_loopw [10, 11, 12] (fun v10 v11 v12 wi => ∃ i : Nat, v12 = .int .i64 i ∧ i ≤ p.length ∧ SrS cs p lw wi v10 v11 i ∧ Below w5.heap.size w5 wi) (fun _ _ v12 _ => p.length - (intOf v12).toNat)
      case atStart => exact ⟨0, rfl, by omega, HST.out, Below.refl _ _⟩
      case round =>
        obtain ⟨i, rfl, hi, hS, hbi⟩ := hrel
        obtain ⟨wi, rfl⟩ : ∃ wi, wi = wr := ⟨_, rfl⟩
        have hzi := hbi.size
        have HBI := Lib.hid hbi
        clear hbi HST
        rcases hS with ⟨rfl, hW, hno⟩ | ⟨q, Aq, cq, rfl, rfl, hNx, hrq, hlq⟩
        · have HW := Lib.hid hW; have HNO := Lib.hid hno
          clear hW hno
          by_cases hlt : i < p.length
          · have hx20 := HPP.out.le (gi_mem hlt)
            obtain ⟨bb, o, rfl, hbB, hc⟩ := (HRP5.out.below HBI.out (Nat.le_refl _)).at (j := i) hlt
            have hcn := hc i hlt
            obtain ⟨x, hx⟩ := Int.eq_ofNat_of_zero_le (show 0 ≤ gi p i by omega)
            rw [hx] at hcn
            have hxx : x ≤ 20 := by omega
            have HXN : Hid ((gi p i).toNat = x) := Lib.hid (by omega)
            have HMVS := Lib.hid (moves_any A c cs x wi B (by have := HB5.out.size; omega) ((HH.out.below HB5.out hB).below HBI.out (by have := HB5.out.size; omega)) (by omega) HG.out)
            clear hc hx hx20
            go_wp2_with fail
            ((with_reducible refine (HMVS.out).mono ?_); rintro e w6 ⟨⟨v1, rfl, N, AN, cN, rfl, hrN, hsN, hlN, hmN⟩, hb6⟩)
            have hz6 := hb6.size
            have HBI6 := Lib.hid (HBI.out.trans (hb6.mono hzi))
            rcases N with _ | ⟨nv, nest⟩
            · have HNX : Hid (∀ j, j < i + 1 → ¬ ∃ mv, isMv cs (gi p j).toNat mv) := Lib.hid fun j hj => by
                by_cases e : j = i
                · subst e
                  rintro ⟨mv, hmv⟩
                  rw [HXN.out] at hmv
                  have := (hmN mv).2 hmv
                  cases this
                · exact HNO.out j (by omega)
              rw [List.length_nil]
              clear hrN hsN hlN hmN hb6
              go_wp2
              go_roundw
              case rel => exact ⟨i + 1, by go_num, by omega, .inl ⟨rfl, HW.out, HNX.out⟩, HBI6.out⟩
              case measure => simp [intOf]; omega
            · obtain ⟨b1, o1, A0, c0, rfl, hbB1, q0, hr0, hl0⟩ := hrN.head
              have hmv : isMv cs x nv := (hmN nv).1 List.mem_cons_self
              have hpos := (isMv_pos hmv).2.2.1
              have hp0 := (hp_aft0 HPP.out hlt (by rw [HXN.out]; exact hmv)).1
              have HFm : Hid (Fm cs p (aft p i nv)) := Lib.hid ⟨i, hlt, HNO.out, _, hsN, fun y => by rw [HXN.out]; exact hmN y, nv, _, rfl, rfl⟩
              have HCA := Lib.hid (afterS_any (some ⟨bb, o, none⟩) A0 cp c0 i p nv w6 w6.heap.size (Nat.le_refl _) ((HRP5.out.below HBI6.out (Nat.le_refl _)).more (by omega)) hr0 hlt (by omega) (by omega) hp0)
              have hln := hrN.len
              rw [List.length_cons]
              obtain ⟨ll, hll⟩ : ∃ ll, ll = nest.length := ⟨_, rfl⟩
              rw [← hll]
              clear hll hrN hsN hlN hmN hb6 hmv hp0 hr0 hcn
              go_wp2_with (go_at_call 59; (with_reducible refine (HCA.out).mono ?_); rintro e w7 ⟨A7, c7, rfl, ho7, hb7⟩)
              have hlo7 := Lo.ownI ho7
              have HS7 : Hid (SrS cs p lw w7 (.slice A7 (aft p i nv).length c7) (.bool true) (i + 1)) := Lib.hid (.inr ⟨_, A7, c7, rfl, rfl, .inr (.inr ⟨_, rfl, HW.out, HFm.out⟩), ho7.rd rfl, hlo7.le (by omega)⟩)
              have HB7 := Lib.hid (HBI6.out.trans (hb7.mono (by omega)))
              clear ho7 hb7 hlo7
              go_roundw
              case rel => exact ⟨i + 1, by go_num, by omega, HS7.out, HB7.out⟩
              case measure => simp [intOf]; omega
          · obtain rfl : i = p.length := by omega
            have HFIN := Lib.hid (HPd.out.fin [] (.done p (Nx.none_of HNO.out)))
            have hO6 := HO5.out.below HBI.out
            have HRR : Hid (RdR wi w.heap.size wi.heap.size Ao co D) := Lib.hid ⟨rows, hO6.rd, (Lo.own hO6).le hwl, (HX5.out.keep fun A c xs k kl => (RdI.below k HBI.out (Nat.le_refl _)).more hzi).rows.le hwl⟩
            have HBE := Lib.hid (HB5.out.trans (HBI.out.mono (by have := HB5.out.size; omega)))
            clear hO6
            go_wp2
            go_ret2
            exact ⟨D, Ao, co, by have := HFIN.out; rw [List.append_nil] at this; exact this, hD20, rfl, HRR.out, HBE.out⟩
        · have HNx := Lib.hid hNx; have HLQ := Lib.hid hlq
          have hO6 := HO5.out.below HBI.out
          have hbQ := bel1 wi (.cells #[.slice Aq q.length cq] 22)
          have HO7 := Lib.hid (hO6.below hbQ)
          have HRQ := Lib.hid ((RdI.below hrq hbQ (Nat.le_refl _)).more hbQ.size)
          have HX7 := Lib.hid (HX5.out.keep fun A c xs k kl => (RdI.below k (gtr HBI.out hbQ) (Nat.le_refl _)).more (gtr HBI.out hbQ).size)
          have HM7 := Lib.hid (HM5.out.below (gtr HBI.out hbQ))
          have HB7 := Lib.hid (HB5.out.trans ((gtr HBI.out hbQ).mono (by have := HB5.out.size; omega)))
          have HZ7 := Lib.hid hbQ.size
          clear hO6 hbQ hrq hNx hlq
          by_cases hlt : i < p.length
          all_goals
            go_wp2_with (at_builtin; refine wpList_append_at rfl _ _ 32 22 (.slice none 0 0) 24 rfl Try.underlying32 infoRow rfl (by omega) l1 (.slice Ao D.length co) rows rfl HO7.out (wi.heap.size + 1) (some ⟨wi.heap.size, 0, none⟩) 1 1 [.slice Aq q.length cq] rfl rfl (Rd.of_blk (Blk.new_at _ _ _ rfl) (Nat.lt_succ_self _)) (fun u hu => by simp at hu; subst hu; rfl) (by rw [HRLN.out]; simp; omega) (by simp; omega) ?_; intro A8 c8 w8 ho8 hb8 hg8 hp8; rw [HRLN.out, List.length_singleton] at ho8 hp8 ⊢)
            have hz8 := hg8.size
            have hz8' := HZ7.out
            have HX8 : Hid (RwX w8 l1 A8 (rows ++ [.slice Aq q.length cq]) (D ++ [q])) := Lib.hid (RwX.push HX7.out HRQ.out HLQ.out hl1w (fun a ha => by subst ha; exact (HLOW.out a.block rfl).2) hg8 hp8 (fun a e => by
              rcases Ao with _ | a0
              · cases e
              · injection e with e; exact ⟨a0, rfl, e⟩) (fun a ha => by subst ha; rfl))
            have HRQ8 : Hid (RdI w8 w8.heap.size Aq cq q) := Lib.hid (Rd.more (Rd.keepNe HRQ.out hg8 (Nat.le_refl _) fun a ha _ e => by have := HLQ.out a ha; have := (HLOW.out _ e).2; omega) hz8)
            have HM8 := Lib.hid (HM7.out.grown hg8 fun j hj => by have := HLOW.out j hj; exact ⟨by omega, by omega, by omega⟩)
            have HB8 := Lib.hid (HB7.out.grown hg8 (by have := HB5.out.size; omega) fun j hj => by have := HLOW.out j hj; omega)
            have HO8 := Lib.hid ho8
            clear ho8 hb8 hg8 hp8
            go_wp2
            go_roundw
            case rel => exact ⟨q, Aq, cq, D ++ [q], A8, c8, _, ks4, vs4, rfl, by rw [List.length_append, List.length_singleton], .step D p q HPd.out HNx.out, HRQ8.out, HLQ.out.le hl1w, by rw [List.length_append, List.length_singleton]; exact HO8.out, HX8.out, HM8.out, HB8.out, by omega⟩
            case measure => simp; omega
    · obtain ⟨b1, o1, A0, c0, rfl, hbB1, q0, hr0, hl0⟩ := hrM5.head
      have HST : Hid (SrS cs p lw (w4.alloc (.cells #[] 3)) (.slice A0 mv.length c0) (.bool true) 0) := Lib.hid (.inr ⟨mv, A0, c0, rfl, rfl, .inr (.inl ⟨mv, _, rfl, hsM, hmM⟩), hr0.more hzA, hl0⟩)
      have hln := hrM5.len
      rw [List.length_cons]
      obtain ⟨ll, hll⟩ : ∃ ll, ll = rest.length := ⟨_, rfl⟩
      rw [← hll]
      clear hll hrM5 hr0 hl0
      clear hq4 hlow hO4 hX4 hrp4 hb4 hbA hO5 hrM hsM hlM hmM hM4 hT4 hzA hlw hz4 hzl HRP HO HX HM HB
      go_wp2
      generalize w4.alloc (.cells #[] 3) = w5 at *
      go_loopw [10, 11, 12] (fun v10 v11 v12 wi => ∃ i : Nat, v12 = .int .i64 i ∧ i ≤ p.length ∧ SrS cs p lw wi v10 v11 i ∧ Below w5.heap.size w5 wi) (fun _ _ v12 _ => p.length - (intOf v12).toNat)
      case atStart => exact ⟨0, rfl, by omega, HST.out, Below.refl _ _⟩
      case round =>
        obtain ⟨i, rfl, hi, hS, hbi⟩ := hrel
        obtain ⟨wi, rfl⟩ : ∃ wi, wi = wr := ⟨_, rfl⟩
        have hzi := hbi.size
        have HBI := Lib.hid hbi
        clear hbi HST
        rcases hS with ⟨rfl, hW, hno⟩ | ⟨q, Aq, cq, rfl, rfl, hNx, hrq, hlq⟩
        · have HW := Lib.hid hW; have HNO := Lib.hid hno
          clear hW hno
          by_cases hlt : i < p.length
          · have hx20 := HPP.out.le (gi_mem hlt)
            obtain ⟨bb, o, rfl, hbB, hc⟩ := (HRP5.out.below HBI.out (Nat.le_refl _)).at (j := i) hlt
            have hcn := hc i hlt
            obtain ⟨x, hx⟩ := Int.eq_ofNat_of_zero_le (show 0 ≤ gi p i by omega)
            rw [hx] at hcn
            have hxx : x ≤ 20 := by omega
            have HXN : Hid ((gi p i).toNat = x) := Lib.hid (by omega)
            have HMVS := Lib.hid (moves_any A c cs x wi B (by have := HB5.out.size; omega) ((HH.out.below HB5.out hB).below HBI.out (by have := HB5.out.size; omega)) (by omega) HG.out)
            clear hc hx hx20
            go_wp2_with fail
            ((with_reducible refine (HMVS.out).mono ?_); rintro e w6 ⟨⟨v1, rfl, N, AN, cN, rfl, hrN, hsN, hlN, hmN⟩, hb6⟩)
            have hz6 := hb6.size
            have HBI6 := Lib.hid (HBI.out.trans (hb6.mono hzi))
            rcases N with _ | ⟨nv, nest⟩
            · have HNX : Hid (∀ j, j < i + 1 → ¬ ∃ mv, isMv cs (gi p j).toNat mv) := Lib.hid fun j hj => by
                by_cases e : j = i
                · subst e
                  rintro ⟨mv, hmv⟩
                  rw [HXN.out] at hmv
                  have := (hmN mv).2 hmv
                  cases this
                · exact HNO.out j (by omega)
              rw [List.length_nil]
              clear hrN hsN hlN hmN hb6
              go_wp2
              go_roundw
              case rel => exact ⟨i + 1, by go_num, by omega, .inl ⟨rfl, HW.out, HNX.out⟩, HBI6.out⟩
              case measure => simp [intOf]; omega
            · obtain ⟨b1, o1, A0, c0, rfl, hbB1, q0, hr0, hl0⟩ := hrN.head
              have hmv : isMv cs x nv := (hmN nv).1 List.mem_cons_self
              have hpos := (isMv_pos hmv).2.2.1
              have hp0 := (hp_aft0 HPP.out hlt (by rw [HXN.out]; exact hmv)).1
              have HFm : Hid (Fm cs p (aft p i nv)) := Lib.hid ⟨i, hlt, HNO.out, _, hsN, fun y => by rw [HXN.out]; exact hmN y, nv, _, rfl, rfl⟩
              have HCA := Lib.hid (afterS_any (some ⟨bb, o, none⟩) A0 cp c0 i p nv w6 w6.heap.size (Nat.le_refl _) ((HRP5.out.below HBI6.out (Nat.le_refl _)).more (by omega)) hr0 hlt (by omega) (by omega) hp0)
              have hln := hrN.len
              rw [List.length_cons]
              obtain ⟨ll, hll⟩ : ∃ ll, ll = nest.length := ⟨_, rfl⟩
              rw [← hll]
              clear hll hrN hsN hlN hmN hb6 hmv hp0 hr0 hcn
              go_wp2_with (go_at_call 59; (with_reducible refine (HCA.out).mono ?_); rintro e w7 ⟨A7, c7, rfl, ho7, hb7⟩)
              have hlo7 := Lo.ownI ho7
              have HS7 : Hid (SrS cs p lw w7 (.slice A7 (aft p i nv).length c7) (.bool true) (i + 1)) := Lib.hid (.inr ⟨_, A7, c7, rfl, rfl, .inr (.inr ⟨_, rfl, HW.out, HFm.out⟩), ho7.rd rfl, hlo7.le (by omega)⟩)
              have HB7 := Lib.hid (HBI6.out.trans (hb7.mono (by omega)))
              clear ho7 hb7 hlo7
              go_roundw
              case rel => exact ⟨i + 1, by go_num, by omega, HS7.out, HB7.out⟩
              case measure => simp [intOf]; omega
          · obtain rfl : i = p.length := by omega
            have HFIN := Lib.hid (HPd.out.fin [] (.done p (Nx.none_of HNO.out)))
            have hO6 := HO5.out.below HBI.out
            have HRR : Hid (RdR wi w.heap.size wi.heap.size Ao co D) := Lib.hid ⟨rows, hO6.rd, (Lo.own hO6).le hwl, (HX5.out.keep fun A c xs k kl => (RdI.below k HBI.out (Nat.le_refl _)).more hzi).rows.le hwl⟩
            have HBE := Lib.hid (HB5.out.trans (HBI.out.mono (by have := HB5.out.size; omega)))
            clear hO6
            go_wp2
            go_ret2
            exact ⟨D, Ao, co, by have := HFIN.out; rw [List.append_nil] at this; exact this, hD20, rfl, HRR.out, HBE.out⟩
        · have HNx := Lib.hid hNx; have HLQ := Lib.hid hlq
          have hO6 := HO5.out.below HBI.out
          have hbQ := bel1 wi (.cells #[.slice Aq q.length cq] 22)
          have HO7 := Lib.hid (hO6.below hbQ)
          have HRQ := Lib.hid ((RdI.below hrq hbQ (Nat.le_refl _)).more hbQ.size)
          have HX7 := Lib.hid (HX5.out.keep fun A c xs k kl => (RdI.below k (gtr HBI.out hbQ) (Nat.le_refl _)).more (gtr HBI.out hbQ).size)
          have HM7 := Lib.hid (HM5.out.below (gtr HBI.out hbQ))
          have HB7 := Lib.hid (HB5.out.trans ((gtr HBI.out hbQ).mono (by have := HB5.out.size; omega)))
          have HZ7 := Lib.hid hbQ.size
          clear hO6 hbQ hrq hNx hlq
          by_cases hlt : i < p.length
          all_goals
            go_wp2_with (at_builtin; refine wpList_append_at rfl _ _ 32 22 (.slice none 0 0) 24 rfl Try.underlying32 infoRow rfl (by omega) l1 (.slice Ao D.length co) rows rfl HO7.out (wi.heap.size + 1) (some ⟨wi.heap.size, 0, none⟩) 1 1 [.slice Aq q.length cq] rfl rfl (Rd.of_blk (Blk.new_at _ _ _ rfl) (Nat.lt_succ_self _)) (fun u hu => by simp at hu; subst hu; rfl) (by rw [HRLN.out]; simp; omega) (by simp; omega) ?_; intro A8 c8 w8 ho8 hb8 hg8 hp8; rw [HRLN.out, List.length_singleton] at ho8 hp8 ⊢)
            have hz8 := hg8.size
            have hz8' := HZ7.out
            have HX8 : Hid (RwX w8 l1 A8 (rows ++ [.slice Aq q.length cq]) (D ++ [q])) := Lib.hid (RwX.push HX7.out HRQ.out HLQ.out hl1w (fun a ha => by subst ha; exact (HLOW.out a.block rfl).2) hg8 hp8 (fun a e => by
              rcases Ao with _ | a0
              · cases e
              · injection e with e; exact ⟨a0, rfl, e⟩) (fun a ha => by subst ha; rfl))
            have HRQ8 : Hid (RdI w8 w8.heap.size Aq cq q) := Lib.hid (Rd.more (Rd.keepNe HRQ.out hg8 (Nat.le_refl _) fun a ha _ e => by have := HLQ.out a ha; have := (HLOW.out _ e).2; omega) hz8)
            have HM8 := Lib.hid (HM7.out.grown hg8 fun j hj => by have := HLOW.out j hj; exact ⟨by omega, by omega, by omega⟩)
            have HB8 := Lib.hid (HB7.out.grown hg8 (by have := HB5.out.size; omega) fun j hj => by have := HLOW.out j hj; omega)
            have HO8 := Lib.hid ho8
            clear ho8 hb8 hg8 hp8
            go_wp2
            go_roundw
            case rel => exact ⟨q, Aq, cq, D ++ [q], A8, c8, _, ks4, vs4, rfl, by rw [List.length_append, List.length_singleton], .step D p q HPd.out HNx.out, HRQ8.out, HLQ.out.le hl1w, by rw [List.length_append, List.length_singleton]; exact HO8.out, HX8.out, HM8.out, HB8.out, by omega⟩
            case measure => simp; omega
end Go.Proofs.Ytdckgplmkigjcaa
namespace Go.Proofs.Ytdckgplmkigjcaa
open Go.RowKit
set_option linter.unusedVariables false

set_option maxHeartbeats 800000 in
theorem playS_any (A A' : Option Addr) (c c' : Nat) (cs p : List Int) (w : World) (B : Nat) (hB : B ≤ w.heap.size) (h : RdI w B A c cs) (h' : RdI w B A' c' p) :
    Calls Try.prog 19 #[.slice A cs.length c, .slice A' p.length c'] w fun e w' => ∃ (S : List (List Int)) (A3 : Option Addr) (c3 : Nat), PlR cs p S ∧ S.length ≤ 20 ∧ e = .returned (.tuple #[.slice A3 S.length c3, .bool (smallB cs p 20)]) ∧ RdR w' w.heap.size w'.heap.size A3 c3 S ∧ Below w.heap.size w w' := by
  rcases hs : smallB cs p 20 with _ | _
  · have HS := Lib.hid (goodS_any A A' c c' cs p w B hB h h')
    rw [hs] at HS
    have HR : Hid (PlR cs p []) := Lib.hid (.inl ⟨hs, rfl⟩)
    clear hs
    go_enter Try.func19, Try.ntmps19
    go_wp2_with (go_at_call 55; (with_reducible refine (HS.out).mono ?_); rintro e w1 ⟨rfl, hb1⟩)
    go_ret2
    exact ⟨[], none, 0, HR.out, by simp, rfl, ⟨[], Rd.nil, Lo.none, RowsAt.nil⟩, hb1⟩
  · refine (playS_ok A A' c c' cs p w B hB h h' hs).mono ?_
    rintro e w' ⟨S, A3, c3, h1, h2, h3, h4, h5⟩
    exact ⟨S, A3, c3, .inr ⟨hs, h1⟩, h2, h3, h4, h5⟩

set_option maxRecDepth 100000 in
set_option maxHeartbeats 3200000 in
theorem lawPlay (a : Option Addr) (len cap : Nat) (zs : List Int) (a' : Option Addr) (len' cap' : Nat) (zs' : List Int) (w : World) (h : IsRow .i64 w a len cap zs) (h' : IsRow .i64 w a' len' cap' zs') :
    Calls Try.prog 4 #[.slice a len cap, .slice a' len' cap'] w fun e w' => e = .returned (.bool true) ∧ Below w.heap.size w w' := by
  obtain ⟨hr, hl⟩ := h.rd
  obtain ⟨hr', hl'⟩ := h'.rd
  clear h h'
  generalize zs.take len = xs at hr hl
  generalize zs'.take len' = ys at hr' hl'
  subst hl hl'
  have h1 := hr.len
  have h2 := hr.max
  have h3 := hr'.len
  have h4 := hr'.max
  by_cases hbig : 1048576 < xs.length
  · go_enter Try.func4, Try.ntmps4
    go_wp2
    go_ret
    exact ⟨rfl, Below.refl _ _⟩
  by_cases hbig' : 1048576 < ys.length
  · go_enter Try.func4, Try.ntmps4
    go_wp2
    go_ret
    exact ⟨rfl, Below.refl _ _⟩
  have hsm : xs.length ≤ 1048576 := by omega
  have hsm' : ys.length ≤ 1048576 := by omega
  have g0 := Below.refl w.heap.size w
  obtain ⟨ok, hok⟩ : ∃ ok, ok = smallB xs ys 20 := ⟨_, rfl⟩
  have HS := Lib.hid fun A A' c c' W => playS_any A A' c c' xs ys W W.heap.size (Nat.le_refl _)
  have HI := Lib.hid fun A A' c c' W => playI_any A A' c c' xs ys W W.heap.size (Nat.le_refl _)
  rw [← hok] at HS HI
  clear hok
  have hbe : (ok != ok) = false := by cases ok <;> rfl
  have hxx : decide (xs = xs) = true := decide_eq_true rfl
  have hyy : decide (ys = ys) = true := decide_eq_true rfl
  go_enter Try.func4, Try.ntmps4
  go_wp2_with fail
  ((with_reducible refine (toIntS_any _ _ xs _ _ g0.size (hr.below g0 (Nat.le_refl _)) hsm).mono ?_); rintro e w1 ⟨A1, c1, rfl, ho1, hb1⟩)
  have g1 := gtr g0 hb1
  go_wp2_with fail
  ((with_reducible refine (toIntS_any _ _ ys _ _ g1.size (hr'.below g1 (Nat.le_refl _)) hsm').mono ?_); rintro e w2 ⟨A2, c2, rfl, ho2, hb2⟩)
  have g2 := gtr g1 hb2
  go_wp2_with fail
  ((with_reducible refine (HS.out A1 A2 c1 c2 _ ((ho1.below hb2).rd rfl) (ho2.rd rfl)).mono ?_); rintro e w3 ⟨S, A3, c3, hMR, hSl, rfl, hs3, hb3⟩)
  have g3 := gtr g2 hb3
  have hz3 := hb3.size
  have HMR := Lib.hid hMR
  have HOf := Lib.hid (off_le20 S hMR.row)
  have hSS : decide (S = S) = true := decide_eq_true rfl
  have hoff := HOf.out S.length (Nat.le_refl _)
  clear hMR ho1 ho2 hb1
  go_wp2_with fail
  ((with_reducible refine (toIntS_any _ _ xs _ _ g3.size (hr.below g3 (Nat.le_refl _)) hsm).mono ?_); rintro e w4 ⟨A4, c4, rfl, ho4, hb4⟩)
  have g4 := gtr g3 hb4
  have hz4 := hb4.size
  have hs4 := hs3.below hb4 (Nat.le_refl _)
  have HBLK4 : Hid (∀ k, (Value.slice A4 xs.length c4).ownBlock = some k → k < w4.heap.size) := fun k hk => ((own_ints.1 ho4).lt k hk).2
  clear hs3
  go_wp2_with fail
  ((with_reducible refine (toIntS_any _ _ ys _ _ g4.size (hr'.below g4 (Nat.le_refl _)) hsm').mono ?_); rintro e w5 ⟨A5, c5, rfl, ho5, hb5⟩)
  have g5 := gtr g4 hb5
  have hz5 := hb5.size
  have hs5 := hs4.below hb5 (by omega)
  have hx5 := ho4.below hb5
  have HBLK5 : Hid (∀ k, (Value.slice A5 ys.length c5).ownBlock = some k → k < w5.heap.size) := fun k hk => ((own_ints.1 ho5).lt k hk).2
  clear hs4 ho4 hb4
  go_wp2_with fail
  ((with_reducible refine (HI.out A4 A5 c4 c5 _ (hx5.rd rfl) (ho5.rd rfl)).mono ?_); rintro e w6 ⟨S', A6, c6, hMR', hSl', rfl, ho6, hb6⟩)
  obtain rfl : S = S' := HMR.out.unique hMR'
  have g6 := gtr g5 hb6
  have hz6 := hb6.size
  have hx6 := hx5.below hb6
  have hy6 := ho5.below hb6
  have hs6 := hs5.below hb6 (by omega)
  clear hx5 ho5 hs5 hb5 hb6 hMR' hSl'
  clear hb3
  have hzw3 := g3.size
  go_wp2_with fail
  ((with_reducible refine (eqRows_any _ _ _ _ S S _ w5.heap.size w2.heap.size _ (Nat.le_refl _) ho6.rd (hs6.more (by omega))).mono ?_); rintro e w7 ⟨rfl, hb7⟩)
  have g7 := gtr g6 hb7
  have hz7 := hb7.size
  have ho7 := ho6.below hb7
  have hx7 := hx6.below hb7
  have hy7 := hy6.below hb7
  have hs7 := hs6.below hb7 (by omega)
  clear ho6 hx6 hy6 hs6 hb7
  go_wp2_with fail
  ((with_reducible refine (toIntS_any _ _ xs _ _ g7.size (hr.below g7 (Nat.le_refl _)) hsm).mono ?_); rintro e w8 ⟨A8, c8, rfl, hm8, hb8⟩)
  have g8 := gtr g7 hb8
  have hz8 := hb8.size
  have ho8 := ho7.below hb8
  have hx8 := hx7.below hb8
  have hy8 := hy7.below hb8
  have hs8 := hs7.below hb8 (by omega)
  clear ho7 hx7 hy7 hs7 hb8
  go_wp2_with fail
  ((with_reducible refine (eqIntS_any _ _ _ _ xs xs _ _ (Nat.le_refl _) (hx8.rd rfl) (hm8.rd rfl)).mono ?_); rintro e w9 ⟨rfl, hb9⟩)
  have g9 := gtr g8 hb9
  have hz9 := hb9.size
  have ho9 := ho8.below hb9
  have hx9 := hx8.below hb9
  have hy9 := hy8.below hb9
  have hs9 := hs8.below hb9 (by omega)
  clear ho8 hx8 hy8 hs8 hb9 hm8
  go_wp2_with fail
  ((with_reducible refine (toIntS_any _ _ ys _ _ g9.size (hr'.below g9 (Nat.le_refl _)) hsm').mono ?_); rintro e wA ⟨AA, cA, rfl, hmA, hbA⟩)
  have gA := gtr g9 hbA
  have hzA := hbA.size
  have hoA := ho9.below hbA
  have hxA := hx9.below hbA
  have hyA := hy9.below hbA
  have hsA := hs9.below hbA (by omega)
  clear ho9 hx9 hy9 hs9 hbA
  go_wp2_with fail
  ((with_reducible refine (eqIntS_any _ _ _ _ ys ys _ _ (Nat.le_refl _) (hyA.rd rfl) (hmA.rd rfl)).mono ?_); rintro e wB ⟨rfl, hbB⟩)
  have gB := gtr gA hbB
  have hzB := hbB.size
  have hoB := hoA.below hbB
  have hxB := own_ints.1 (hxA.below hbB)
  have hyB := own_ints.1 (hyA.below hbB)
  have hsB := hsA.below hbB (by omega)
  clear hoA hxA hyA hsA hbB hmA
  have HBX : Hid (∀ k, (Value.slice A4 xs.length c4).ownBlock = some k → w3.heap.size ≤ k ∧ k < w4.heap.size) := fun k hk => ⟨(hxB.lt k hk).1, HBLK4.out k hk⟩
  have HBY : Hid (∀ k, (Value.slice A5 ys.length c5).ownBlock = some k → w4.heap.size ≤ k ∧ k < w5.heap.size) := fun k hk => ⟨(hyB.lt k hk).1, HBLK5.out k hk⟩
  go_wp2_with fail
  ((with_reducible refine (markRow_any _ _ _ _ _ _ hxB (by decide) (by omega)).mono ?_); rintro e wC ⟨rfl, _, hgC⟩)
  have hzC := hgC.size
  have gC : Below w.heap.size w wC := gB.grown hgC (by have := gB.size; omega) fun k hk => by have := HBX.out k hk; omega
  have hoC := hoB.grownF hgC (fun k hk => .inl (by have := HBX.out k hk; omega))
  have hyC := hyB.grown hgC (by
    rcases hob : (Value.slice A5 ys.length c5).ownBlock with _ | k
    · exact .inl rfl
    · refine .inr fun e => ?_
      have := HBY.out k hob
      have := HBX.out k e.symm
      omega)
  have hsC := hsB.grown hgC (by omega) fun k hk => .inr (HBX.out k hk).1
  clear hoB hyB hsB hgC hxB
  go_wp2_with fail
  ((with_reducible refine (markRow_any _ _ _ _ _ _ hyC (by omega) (by omega)).mono ?_); rintro e wD ⟨rfl, _, hgD⟩)
  have hzD := hgD.size
  have gD : Below w.heap.size w wD := gC.grown hgD (by have := gC.size; omega) fun k hk => by have := HBY.out k hk; omega
  have hoD := hoC.grownF hgD (fun k hk => .inl (by have := HBY.out k hk; omega))
  have hsD := hsC.grown hgD (by omega) fun k hk => .inr (by have := HBY.out k hk; omega)
  clear hoC hyC hsC hgD
  have hkk : ¬ (1 : Int) + (xs.length : Int) + (ys.length : Int) < 0 := by omega
  go_wp2_with fail
  ((with_reducible refine (eqRows_any _ _ _ _ S S _ w5.heap.size w2.heap.size _ (Nat.le_refl _) hoD.rd (hsD.more (by omega))).mono ?_); rintro e wE ⟨rfl, hbE⟩)
  have gE := gtr gD hbE
  have hzE := hbE.size
  have hoE := hoD.below hbE
  have hsE := hsD.below hbE (by omega)
  clear hoD hsD hbE
  go_wp2_with fail
  ((with_reducible refine (markRows_any _ _ S 1 wE w5.heap.size hoE (by omega) (by omega) (by omega)).mono ?_); rintro e wF ⟨rfl, hoF, hbF⟩)
  have hzF := hbF.size
  have gF : Below w.heap.size w wF := gE.trans (hbF.mono (by omega))
  have hsF := hsE.below hbF (by omega)
  have hheld : Hid (∀ w' B, B ≤ w'.heap.size → RdR w' w5.heap.size B A6 c6 (mk 1 S S.length) → Calls Try.prog 24 #[.slice A6 S.length c6, .int .i64 1] w' fun e w'' => e = .returned (.int .i64 (1 + off S S.length)) ∧ w' = w'') := fun w' B hB hr => by
    have hgl : ∀ j, j < S.length → gl (mk 1 S S.length) j = numRow (1 + off S j) (gl S j).length := fun j hj => by rw [gl_mk 1 S S.length j hj, if_pos hj]
    have := heldRows_any A6 c6 (mk 1 S S.length) 1 (off S) w' w5.heap.size B hB hr (by omega) rfl
      (fun j hj => by rw [mk_len] at hj; rw [hgl j hj, numRow_len]; rfl)
      (fun j hj => by rw [mk_len] at hj; rw [hgl j hj, numRow_len])
      (fun j hj => by rw [mk_len] at hj; have := HOf.out j hj; omega)
    rw [mk_len] at this
    exact this
  have hnF := hoF.rd
  clear hoE hsE hoF
  generalize hN : off S S.length = N at *
  generalize mk 1 S S.length = Y at *
  clear hN
  go_wp2_with fail
  ((with_reducible refine (hheld.out wF _ (Nat.le_refl _) hnF).mono ?_); rintro e wG ⟨rfl, rfl⟩)
  have hnn : ¬ 1 + (N : Int) < 0 := by omega
  go_wp2_with fail
  ((with_reducible refine (toIntS_any _ _ xs _ _ gF.size (hr.below gF (Nat.le_refl _)) hsm).mono ?_); rintro e wH ⟨AH, cH, rfl, hmH, hbH⟩)
  have gH := gtr gF hbH
  have hzH := hbH.size
  have hsH := hsF.below hbH (by omega)
  have hnH := hnF.below hbH (Nat.le_refl _)
  clear hsF
  go_wp2_with fail
  ((with_reducible refine (toIntS_any _ _ ys _ _ gH.size (hr'.below gH (Nat.le_refl _)) hsm').mono ?_); rintro e wJ ⟨AJ, cJ, rfl, hmJ, hbJ⟩)
  have gJ := gtr gH hbJ
  have hzJ := hbJ.size
  have hsJ := hsH.below hbJ (by omega)
  have hnJ := hnH.below hbJ (by omega)
  have hmH2 := hmH.below hbJ
  clear hsH hnH hmH
  go_wp2_with fail
  ((with_reducible refine (HI.out AH AJ cH cJ _ (hmH2.rd rfl) (hmJ.rd rfl)).mono ?_); rintro e wK ⟨S', AK, cK, hMR', -, rfl, hoK, hbK⟩; obtain rfl : S = S' := HMR.out.unique hMR'; clear hMR')
  have gK := gtr gJ hbK
  have hzK := hbK.size
  have hsK := hsJ.below hbK (by omega)
  have hnK := hnJ.below hbK (by omega)
  go_wp2_with fail
  ((with_reducible refine (eqRows_any _ _ _ _ S S _ wJ.heap.size w2.heap.size _ (Nat.le_refl _) hoK.rd (hsK.more (by omega))).mono ?_); rintro e wL ⟨rfl, hbL⟩)
  have gL := gtr gK hbL
  have hzL := hbL.size
  have hnL := hnK.below hbL (by omega)
  go_wp2_with fail
  ((with_reducible refine (hheld.out wL _ (by omega) hnL).mono ?_); rintro e wM ⟨rfl, rfl⟩)
  go_wp2
  go_ret
  exact ⟨rfl, gL⟩
end Go.Proofs.Ytdckgplmkigjcaa
