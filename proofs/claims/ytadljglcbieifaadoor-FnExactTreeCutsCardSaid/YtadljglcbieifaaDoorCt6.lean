/- Rows of trees: the laws' own helpers. Conditions: none. -/
import Derived.Test.YtadljglcbieifaaDoorCt5
import Derived.Test.YtadljglcbieifaaDoorMark
import Derived.Test.YtadljglcbieifaaDoorSEq
import Derived.Test.YtadljglcbieifaaDoorSTree
namespace Go.Proofs.YtadljglcbieifaaDoor
open Go.RowKit
set_option linter.unusedVariables false

/-- How many marks the first j trees take. -/
def offT (ts : List (List Int × ByteArray)) : Nat → Nat
  | 0 => 0
  | j + 1 => offT ts j + (gtr' ts j).1.length + 1
theorem offT_le (ts : List (List Int × ByteArray)) {i j : Nat} (h : i ≤ j) : offT ts i ≤ offT ts j := by
  induction j with
  | zero => have : i = 0 := by omega
            subst this; exact Nat.le_refl _
  | succ j ih =>
    by_cases e : i = j + 1
    · subst e; exact Nat.le_refl _
    · have := ih (by omega)
      show _ ≤ offT ts j + _ + 1
      omega
/-- The first j trees marked, from k on. -/
def mkT (k : Nat) (ts : List (List Int × ByteArray)) : Nat → List (List Int × ByteArray)
  | 0 => ts
  | j + 1 => (mkT k ts j).set j (numRow ((k + offT ts j : Nat) : Int) (gtr' ts j).1.length, mt (k + offT ts j + (gtr' ts j).1.length))
theorem mkT_len (k : Nat) (ts : List (List Int × ByteArray)) (j : Nat) : (mkT k ts j).length = ts.length := by
  induction j with
  | zero => rfl
  | succ j ih => show ((mkT k ts j).set _ _).length = _; rw [List.length_set, ih]
theorem gtr_set (ts : List (List Int × ByteArray)) (i j : Nat) (t : List Int × ByteArray) (hj : j < ts.length) : gtr' (ts.set i t) j = if i = j then t else gtr' ts j := by
  unfold gtr'
  by_cases h : i = j
  · subst h; simp [hj]
  · simp [h, List.getElem?_set_ne h]
theorem gtr_mkT (k : Nat) (ts : List (List Int × ByteArray)) (j i : Nat) (hi : i < ts.length) : gtr' (mkT k ts j) i = if i < j then (numRow ((k + offT ts i : Nat) : Int) (gtr' ts i).1.length, mt (k + offT ts i + (gtr' ts i).1.length)) else gtr' ts i := by
  induction j with
  | zero => rw [if_neg (by omega)]; rfl
  | succ j ih =>
    show gtr' ((mkT k ts j).set j _) i = _
    rw [gtr_set _ _ _ _ (by rw [mkT_len]; exact hi), ih]
    by_cases h : j = i
    · subst h; rw [if_pos rfl, if_pos (by omega)]
    · rw [if_neg h]
      by_cases h2 : i < j
      · rw [if_pos h2, if_pos (by omega)]
      · rw [if_neg h2, if_neg (by omega)]
/-- Slice A reads as the trees of ts. -/
def RdT (w : World) (B : Nat) (A : Option Addr) (c : Nat) (ts : List (List Int × ByteArray)) : Prop :=
  ts.length ≤ c ∧ c ≤ 9223372036854775807 ∧ ∀ j, j < ts.length → ∃ b o, A = some ⟨b, o, none⟩ ∧ b < B ∧ ∀ i, i < ts.length → ∃ Ai ci,
    w.cell? ⟨b, o + i * 2, none⟩ = some (.slice Ai (gtr' ts i).1.length ci) ∧ w.cell? ⟨b, o + i * 2 + 1, none⟩ = some (.string (gtr' ts i).2) ∧ RdI w B Ai ci (gtr' ts i).1
theorem RdT.below {w w' : World} {B B' c : Nat} {A : Option Addr} {ts : List (List Int × ByteArray)} (h : RdT w B A c ts) (hb : Below B' w w') (hB : B ≤ B') : RdT w' B A c ts :=
  ⟨h.1, h.2.1, fun j hj => by
    obtain ⟨b, o, hA, hbB, hc⟩ := h.2.2 j hj
    refine ⟨b, o, hA, hbB, fun i hi => ?_⟩
    obtain ⟨Ai, ci, k1, k2, k3⟩ := hc i hi
    exact ⟨Ai, ci, (hb.cell (p := ⟨b, _, none⟩) (by show b < B'; omega)).trans k1, (hb.cell (p := ⟨b, _, none⟩) (by show b < B'; omega)).trans k2, k3.below hb hB⟩⟩
theorem gc_ts (ts : List (List Int × ByteArray)) (i : Nat) : gc (ts.map fun t => ints t.1) i = ints (gtr' ts i).1 := by
  unfold gc gtr'
  by_cases h : i < ts.length <;> simp [h, List.getD, ints]
theorem FrT.rd {w : World} {lo : Nat} {A : Option Addr} {n c : Nat} {ts : List (List Int × ByteArray)} (h : FrT w lo (.slice A n c) ts) : n = ts.length ∧ RdT w w.heap.size A c ts := by
  obtain ⟨us, h1, h2, h3⟩ := h
  have hl : us.length = ts.length := by rw [h2.1, List.length_map]
  rcases h1.2 with ⟨hv, h0⟩ | ⟨g, cap, cur, hv, hb, hg, hnc, hcm, hcs, ht⟩
  · injection hv with hA hn hc
    subst hA; subst hc
    exact ⟨by omega, by omega, by decide, fun j hj => by omega⟩
  · injection hv with hA hn hc
    subst hA; subst hc
    refine ⟨hn, hnc, by unfold maxLen at hcm; exact hcm, fun j hj => ⟨g, 0, rfl, (h1.lt g rfl).2, fun i hi => ?_⟩⟩
    have hcell := h1.cells (g := g) rfl
    obtain ⟨a1, a2⟩ := flT_at us ts hl i hi
    obtain ⟨Ai, ci, k1, k2⟩ := h2.2.1 i (by rw [List.length_map]; exact hi)
    rw [gc_ts] at k1 k2
    rw [ints_len] at k1 k2
    rw [k1] at a1
    have c1 := hcell _ _ a1
    have c2 := hcell _ _ a2
    rw [add_none] at c1 c2
    exact ⟨Ai, ci, c1, by rw [← c2, Nat.add_assoc], k2.rd⟩

theorem flT_set (us : List Value) (ts : List (List Int × ByteArray)) (h : us.length = ts.length) (i : Nat) (hi : i < ts.length) (t : List Int × ByteArray) : (flT us ts).set (i * 2 + 1) (.string t.2) = flT us (ts.set i t) := by
  induction us generalizing ts i with
  | nil => cases ts with
    | nil => simp at hi
    | cons t ts => simp at h
  | cons a us ih => cases ts with
    | nil => simp at h
    | cons b ts =>
      cases i with
      | zero => rfl
      | succ i =>
        have := ih ts (by simpa using h) i (by simpa using hi)
        have e : (flT (a :: us) (b :: ts)).set ((i + 1) * 2 + 1) (.string t.2) = a :: .string b.2 :: (flT us ts).set (i * 2 + 1) (.string t.2) := by rw [show (i + 1) * 2 + 1 = i * 2 + 1 + 1 + 1 by omega]; rfl
        rw [e, this]; rfl
/-- One tree of a row is marked: its row, then its text. -/
theorem FrT.mark {w w1 w2 : World} {lo g n c j : Nat} {u : Value} {us : List Value} {ts : List (List Int × ByteArray)} {ys : List Int} {st : ByteArray}
    (h : w.ownsRow lo 29 2 (.slice (some ⟨g, 0, none⟩) n c) ts.length (flT us ts) ∧ FrC w lo 3 us (ts.map fun t => ints t.1) ∧ ∀ (i : Nat) (u : Value) (g' : Nat), us[i]? = some u → u.ownBlock = some g' → (Value.slice (some ⟨g, 0, none⟩) n c).ownBlock ≠ some g')
    (hj : j < ts.length) (hu : us[j]? = some u) (hy : ys.length = (gtr' ts j).1.length) (ho : Own w1 lo 3 u (ints ys)) (hg : w.grownBy w1 u.ownBlock) (hb : Below w1.heap.size w1 w2) :
    FrT (w2.setCell ⟨g, j * 2 + 1, none⟩ (.string st)) lo (.slice (some ⟨g, 0, none⟩) n c) (ts.set j (ys, st)) := by
  obtain ⟨h1, h2, h3⟩ := h
  have hl : us.length = ts.length := by rw [h2.1, List.length_map]
  have hvne : (Value.slice (some ⟨g, 0, none⟩) n c).ownBlock ≠ u.ownBlock := fun he => h3 j u g hu (by rw [← he]; rfl) rfl
  have hn : n = ts.length := by obtain ⟨A, c', hv⟩ := ownsK_form h1; injection hv
  subst hn
  have o2 := ownsK_below (World.ownsRow.kept h1 hg (.inr hvne)) hb
  have o3 := (World.ownsRow.stored o2 (j * 2 + 1) (.string st)).1
  rw [flT_set us ts hl j hj (ys, st)] at o3
  have hfar : ∀ {i : Nat} {x : Value} {zs : List Value}, us[i]? = some x → Own w2 lo 3 x zs → Own (w2.setCell ⟨g, j * 2 + 1, none⟩ (.string st)) lo 3 x zs := fun hx hz => hz.far _ _ (fun he => h3 _ _ g hx he rfl)
  refine ⟨us, by rw [List.length_set]; exact o3, ⟨by rw [List.map_set, List.length_set]; exact h2.1, fun i hi => ?_, h2.2.2⟩, h3⟩
  rw [List.length_map, List.length_set] at hi
  rw [gc_ts, gtr_set _ _ _ _ hi]
  by_cases hij : j = i
  · subst hij
    obtain ⟨Ai, ci, k1, k2⟩ := h2.2.1 j (by rw [List.length_map]; exact hj)
    rw [hu] at k1
    injection k1 with k1
    rw [if_pos rfl, ints_len, hy]
    rw [gc_ts, ints_len] at k1
    refine ⟨Ai, ci, by rw [hu, k1], ?_⟩
    rw [← k1]
    exact hfar hu (ho.below hb)
  · rw [if_neg hij]
    obtain ⟨Ai, ci, k1, k2⟩ := h2.2.1 i (by rw [List.length_map]; exact hi)
    rw [gc_ts] at k1 k2
    refine ⟨Ai, ci, k1, hfar k1 ((k2.grown hg ?_).below hb)⟩
    by_cases hrb : (Value.slice Ai (ints (gtr' ts i).1).length ci).ownBlock = none
    · exact .inl hrb
    · refine .inr fun he => ?_
      obtain ⟨g', hgr⟩ := Option.ne_none_iff_exists'.1 hrb
      exact hij (h2.2.2 j i u _ g' hu k1 (by rw [← he]; exact hgr) hgr)

set_option maxHeartbeats 800000 in
theorem eqTS_same (A A' : Option Addr) (c c' : Nat) (ts : List (List Int × ByteArray)) (w : World) (B : Nat) (hB : B ≤ w.heap.size) (h : RdT w B A c ts) (h' : RdT w B A' c' ts) :
    Calls Tryd.prog 18 #[.slice A ts.length c, .slice A' ts.length c'] w fun e w' => e = .returned (.bool true) ∧ Below w.heap.size w w' := by
  have h1 := h.1
  have h2 := h.2.1
  have h3 := h'.1
  have h4 := h'.2.1
  have hne : ((ts.length : Int) != (ts.length : Int)) = false := by simp
  go_enter Tryd.func18, Tryd.ntmps18
  go_wp2
  go_loopw [5] (fun i wr => ∃ k : Nat, i = .int .i64 k ∧ k ≤ ts.length ∧ Below w.heap.size w wr) (fun i _ => ts.length - (intOf i).toNat)
  case atStart => exact ⟨0, rfl, by omega, Below.refl _ _⟩
  case round =>
    obtain ⟨k, rfl, hk, hb⟩ := hrel
    have hzr := hb.size
    by_cases hlt : k < ts.length
    · obtain ⟨b, o, rfl, hbB, hc⟩ := (h.below hb hB).2.2 k hlt
      obtain ⟨b', o', rfl, hbB', hc'⟩ := (h'.below hb hB).2.2 k hlt
      obtain ⟨A1, c1, k0, k1, r1⟩ := hc k hlt
      obtain ⟨A2, c2, l0, l1, r2⟩ := hc' k hlt
      generalize gtr' ts k = t at *
      obtain ⟨xs, s⟩ := t
      simp only at k0 k1 r1 l0 l1 r2
      have hbz : b < wr.heap.size := by omega
      have hbz' : b' < wr.heap.size := by omega
      have hx0 := fun x => (grow_cell (w := wr) b (o + k * 2) hbz x).trans k0
      have hx1 := fun x => (grow_cell (w := wr) b (o + k * 2 + 1) hbz x).trans k1
      have hx2 := fun x => (grow_cell (w := wr) b' (o' + k * 2) hbz' x).trans l0
      have hx3 := fun x => (grow_cell (w := wr) b' (o' + k * 2 + 1) hbz' x).trans l1
      have HR1 : Hid (∀ x : Wd (Below wr.heap.size wr), RdI (inst _ x) B A1 c1 xs) := fun x => r1.below (inst_inv x) (by omega)
      have HR2 : Hid (∀ x : Wd (Below wr.heap.size wr), RdI (inst _ x) B A2 c2 xs) := fun x => r2.below (inst_inv x) (by omega)
      clear hc hc' k0 k1 l0 l1 r1 r2
      go_wp2
      refine wp_region_inv (Below wr.heap.size wr) (grow0 _) (by kernel_rfl) (by kernel_rfl) ?_
      repeat (go_big_quiet_step (first | (go_at_call 19; with_reducible exact grow_step (eqTree_ok A1 A2 c1 c2 xs s _ B (by exact Nat.le_trans (by omega) (grow_size _)) (HR1.out _) (HR2.out _)))))
      refine wpQuiet_nil ?_
      intro w2 hw'
      have hb2 := grow_of hw'
      clear hw'
      go_wp2
      go_roundw
      case rel => exact ⟨k + 1, by go_num, by omega, hb.trans (hb2.mono hzr)⟩
      case measure => simp [intOf]; omega
    · obtain rfl : k = ts.length := by omega
      go_wp2
      go_ret
      exact ⟨rfl, hb⟩

set_option maxHeartbeats 800000 in
theorem heldTS_any (A : Option Addr) (c : Nat) (ts : List (List Int × ByteArray)) (k : Nat) (w : World) (B : Nat) (hB : B ≤ w.heap.size) (h : RdT w B A c (mkT k ts ts.length)) (hk : 1 ≤ k) (hb : k + offT ts ts.length ≤ 1000000000) :
    Calls Tryd.prog 22 #[.slice A ts.length c, .int .i64 k] w fun e w' => e = .returned (.int .i64 (k + offT ts ts.length : Nat)) ∧ Below w.heap.size w w' := by
  have h1 := h.1
  have h2 := h.2.1
  rw [mkT_len] at h1
  have HOFF : Hid (∀ j, j < ts.length → offT ts (j + 1) = offT ts j + (gtr' ts j).1.length + 1 ∧ offT ts (j + 1) ≤ offT ts ts.length) := fun j hj => ⟨rfl, offT_le ts hj⟩
  have HG : Hid (∀ i, i < ts.length → gtr' (mkT k ts ts.length) i = (numRow ((k + offT ts i : Nat) : Int) (gtr' ts i).1.length, mt (k + offT ts i + (gtr' ts i).1.length))) := fun i hi => by rw [gtr_mkT k ts ts.length i hi, if_pos hi]
  go_enter Tryd.func22, Tryd.ntmps22
  go_wp2
  go_loopw [1, 5] (fun k' i wr => ∃ j : Nat, i = .int .i64 j ∧ k' = .int .i64 (k + offT ts j : Nat) ∧ j ≤ ts.length ∧ Below w.heap.size w wr) (fun _ i _ => ts.length - (intOf i).toNat)
  case atStart => exact ⟨0, rfl, rfl, by omega, Below.refl _ _⟩
  case round =>
    obtain ⟨j, rfl, rfl, hj, hb1⟩ := hrel
    have hzr := hb1.size
    by_cases hlt : j < ts.length
    · obtain ⟨b, o, rfl, hbB, hc⟩ := (h.below hb1 hB).2.2 j (by rw [mkT_len]; exact hlt)
      obtain ⟨A1, c1, k0, k1, r1⟩ := hc j (by rw [mkT_len]; exact hlt)
      rw [HG.out j hlt] at k0 k1 r1
      simp only [numRow_len] at k0 k1 r1
      obtain ⟨hoj, hol⟩ := HOFF.out j hlt
      have HOJ := Lib.hid hoj
      generalize (gtr' ts j).1.length = m at *
      generalize offT ts j = oj at *
      have HH : Hid (∀ W, Below wr.heap.size wr W → Calls Tryd.prog 75 #[.slice A1 m c1, .int .i64 (k + oj : Nat)] W fun e w' => e = .returned (.int .i64 (k + oj + m : Nat)) ∧ W = w') := fun W hW => by
        have := heldRow_any A1 c1 m ((k + oj : Nat) : Int) W B (r1.below hW (by omega)) (by omega) (by omega)
        exact this.mono fun e w' ⟨h1, h2⟩ => ⟨by rw [h1]; congr 2, h2⟩
      have HM : Hid (∀ W, Calls Tryd.prog 74 #[.int .i64 (k + oj + m : Nat)] W fun e w' => e = .returned (.string (mt (k + oj + m))) ∧ Below W.heap.size W w') := fun W => markText_any (k + oj + m) W (by omega) (by omega)
      have hbz : b < wr.heap.size := by omega
      clear hc hoj r1
      obtain ⟨K1, hK1⟩ : ∃ K1, K1 = k + oj + m := ⟨_, rfl⟩
      rw [← hK1] at HH HM k1
      obtain ⟨K0, hK0⟩ : ∃ K0, K0 = k + oj := ⟨_, rfl⟩
      rw [← hK0] at HH ⊢
      have hK1b : K1 ≤ 1000000000 := by have := HOJ.out; omega
      have hK1p : 1 ≤ K1 := by omega
      have HK1 : Hid (K1 + 1 = k + offT ts (j + 1)) := by show _ = _; rw [HOJ.out]; omega
      clear hK1 hK0
      go_wp2_with fail
      ((with_reducible refine (HH.out _ (Below.refl _ _)).mono ?_); rintro e w1 ⟨rfl, rfl⟩)
      have hx1 := fun x => (grow_cell (w := wr) b (o + j * 2 + 1) hbz x).trans k1
      have hnn : ¬ (K1 : Int) < 0 := by omega
      go_wp2
      refine wp_region_inv (Below wr.heap.size wr) (grow0 _) (by kernel_rfl) (by kernel_rfl) ?_
      repeat (go_big_quiet_step (first | (go_at_call 74; with_reducible exact grow_step (HM.out _))))
      refine wpQuiet_nil ?_
      intro w2 hw'
      have hb2 := grow_of hw'
      clear hw'
      go_wp2
      go_roundw
      case rel => exact ⟨j + 1, by go_num, by rw [← HK1.out]; go_num, by omega, hb1.trans (hb2.mono hzr)⟩
      case measure => simp [intOf]; omega
    · obtain rfl : j = ts.length := by omega
      go_wp2
      go_ret
      exact ⟨rfl, hb1⟩

set_option maxHeartbeats 1600000 in
theorem markTS_any (A : Option Addr) (c : Nat) (ts : List (List Int × ByteArray)) (k : Nat) (w : World) (lo : Nat) (h : FrT w lo (.slice A ts.length c) ts) (hlo : lo ≤ w.heap.size) (hk : 1 ≤ k) (hb : k + offT ts ts.length ≤ 1000000000) :
    Calls Tryd.prog 21 #[.slice A ts.length c, .int .i64 k] w fun e w' => e = .returned (.int .i64 (k + offT ts ts.length : Nat)) ∧ FrT w' lo (.slice A ts.length c) (mkT k ts ts.length) ∧ Below lo w w' := by
  have h1 := h.rd.2.1
  have h2 := h.rd.2.2.1
  have HOFF : Hid (∀ j, j < ts.length → offT ts (j + 1) = offT ts j + (gtr' ts j).1.length + 1 ∧ offT ts (j + 1) ≤ offT ts ts.length) := fun j hj => ⟨rfl, offT_le ts hj⟩
  have HG : Hid (∀ j, j < ts.length → gtr' (mkT k ts j) j = gtr' ts j) := fun j hj => by rw [gtr_mkT k ts j j hj, if_neg (by omega)]
  have HMK : Hid (∀ j, mkT k ts (j + 1) = (mkT k ts j).set j (numRow ((k + offT ts j : Nat) : Int) (gtr' ts j).1.length, mt (k + offT ts j + (gtr' ts j).1.length))) := fun j => rfl
  have HML : Hid (∀ j, (mkT k ts j).length = ts.length) := fun j => mkT_len k ts j
  go_enter Tryd.func21, Tryd.ntmps21
  go_wp2
  go_loopw [1, 5] (fun k' i wr => ∃ j : Nat, i = .int .i64 j ∧ k' = .int .i64 (k + offT ts j : Nat) ∧ j ≤ ts.length ∧ FrT wr lo (.slice A ts.length c) (mkT k ts j) ∧ Below lo w wr ∧ lo ≤ wr.heap.size) (fun _ i _ => ts.length - (intOf i).toNat)
  case atStart => exact ⟨0, rfl, rfl, by omega, h, Below.refl _ _, hlo⟩
  case round =>
    clear h
    obtain ⟨j, rfl, rfl, hj, fr, hb1, hz⟩ := hrel
    by_cases hlt : j < ts.length
    · obtain ⟨us, p1, p2, p3⟩ := fr
      have hml := HML.out j
      have hul : us.length = ts.length := by rw [p2.1, List.length_map, hml]
      obtain ⟨Aj, cj, k1, k2⟩ := p2.2.1 j (by rw [List.length_map, hml]; exact hlt)
      rw [gc_ts, HG.out j hlt, ints_len] at k1 k2
      obtain ⟨g, hA, hgl, hgz⟩ : ∃ g, A = some ⟨g, 0, none⟩ ∧ lo ≤ g ∧ g < wr.heap.size := by
        rcases p1.2 with ⟨hv, h0⟩ | ⟨g, cap, cur, hv, _⟩
        · rw [hml] at h0; omega
        · injection hv with hA hn hc
          exact ⟨g, hA, p1.lt g (by rw [hA]; rfl)⟩
      subst hA
      obtain ⟨a1, a2⟩ := flT_at us (mkT k ts j) (by rw [hul, hml]) j (by rw [hml]; exact hlt)
      rw [k1] at a1
      have c1 := p1.cells (g := g) rfl _ _ a1
      have c2 := p1.cells (g := g) rfl _ _ a2
      rw [add_none] at c1 c2
      rw [Nat.zero_add] at c1 c2
      obtain ⟨hoj, hol⟩ := HOFF.out j hlt
      have HOJ := Lib.hid hoj
      have HMJ := Lib.hid (HMK.out j)
      have HGL : Hid ((gtr' (mkT k ts j) j).1.length = (gtr' ts j).1.length) := by show _ = _; rw [HG.out j hlt]
      have HGJ := Lib.hid (HG.out j hlt)
      obtain ⟨sx, hsx⟩ : ∃ sx, sx = (gtr' (mkT k ts j) j).2 := ⟨_, rfl⟩
      rw [← hsx] at c2
      obtain ⟨xj, hxj⟩ : ∃ xj, xj = (gtr' ts j).1 := ⟨_, rfl⟩
      rw [← hxj] at HOJ HMJ HGL c1 k1 k2 hoj
      have hK1 : k + offT ts j + xj.length ≤ 1000000000 := by omega
      have hkp : 1 ≤ k + offT ts j + xj.length := by omega
      have HK2 : Hid (k + offT ts j + xj.length + 1 = k + offT ts (j + 1)) := by show _ = _; rw [HOJ.out]; omega
      have HMR : Hid (Calls Tryd.prog 73 #[.slice Aj xj.length cj, .int .i64 (k + offT ts j : Nat)] wr fun e w' => e = .returned (.int .i64 (k + offT ts j + xj.length : Nat)) ∧ Own w' lo 3 (.slice Aj xj.length cj) (ints (numRow ((k + offT ts j : Nat) : Int) xj.length)) ∧ wr.grownBy w' (Value.slice Aj xj.length cj).ownBlock) := by
        have := markRow_any Aj cj xj ((k + offT ts j : Nat) : Int) wr lo k2 (by omega) (by omega)
        exact this.mono fun e w' ⟨h1, h2⟩ => ⟨by rw [h1]; congr 2, h2⟩
      have HM : Hid (∀ W, Calls Tryd.prog 74 #[.int .i64 (k + offT ts j + xj.length : Nat)] W fun e w' => e = .returned (.string (mt (k + offT ts j + xj.length))) ∧ Below W.heap.size W w') := fun W => markText_any _ W hkp hK1
      have P1 := Lib.hid p1; have P2 := Lib.hid p2; have P3 := Lib.hid p3; have HU := Lib.hid k1; have HK := Lib.hid k2
      clear hoj hol hxj hsx a1 a2 k1 k2 p1 p2 p3 hul hml
      generalize hKK : k + offT ts j + xj.length = K1 at *
      generalize hK0 : k + offT ts j = K0 at *
      clear hKK hK0
      go_wp2_with fail
      ((with_reducible refine HMR.out.mono ?_); rintro e w1 ⟨rfl, ho1, hg1⟩)
      have hvne : (Value.slice (some ⟨g, 0, none⟩) ts.length c).ownBlock ≠ (Value.slice Aj xj.length cj).ownBlock := fun he => P3.out j _ g HU.out (by rw [← he]; rfl) rfl
      have q1 := World.ownsRow.kept P1.out hg1 (.inr hvne)
      have HW1 := Lib.hid ho1; have HG1 := Lib.hid hg1
      have hz1 := hg1.size
      clear ho1 hg1 c1 c2 hvne
      go_wp2_with fail
      ((with_reducible refine (HM.out _).mono ?_); rintro e w2 ⟨rfl, hb2⟩)
      have q2 := ownsK_below q1 hb2
      obtain ⟨b1, b2⟩ := flT_at us (mkT k ts j) (by rw [P2.out.1, List.length_map]) j (by rw [HML.out]; exact hlt)
      have d2 := q2.cells (g := g) rfl _ _ b2
      rw [add_none, Nat.zero_add] at d2
      have q2f := q2
      rw [HML.out] at q2f
      have z2 : w2.frozen? ⟨g, j * 2 + 1, none⟩ = false := q2f.frozenAt _
      clear q2f
      have HFR : Hid (FrT (w2.setCell ⟨g, j * 2 + 1, none⟩ (.string (mt K1))) lo (.slice (some ⟨g, 0, none⟩) ts.length c) (mkT k ts (j + 1))) := by
        show FrT _ _ _ _
        rw [HMJ.out]
        exact FrT.mark ⟨P1.out, P2.out, P3.out⟩ (by rw [HML.out]; exact hlt) HU.out (by rw [numRow_len, HGL.out]) HW1.out HG1.out hb2
      have hz2 := hb2.size
      have hbl : Below lo w w2 := (hb1.grown HG1.out hz fun g' hg' => (HK.out.lt g' hg').1).trans (hb2.mono (by omega))
      clear q1 q2 b1 b2
      go_wp2
      go_roundw
      case rel => exact ⟨j + 1, by go_num, by rw [← HK2.out]; go_num, by omega, HFR.out, hbl.setCell (by dsimp only; omega) _, by simp; omega⟩
      case measure => simp [intOf]; omega
    · obtain rfl : j = ts.length := by omega
      have HF := Lib.hid fr; clear fr
      go_wp2
      go_ret
      exact ⟨rfl, HF.out, hb1⟩
end Go.Proofs.YtadljglcbieifaaDoor
