/- The draw of trees. Conditions: none. -/
import Derived.Test.YtbhficohgdlojaaDoorDrawK
import Derived.Test.YtbhficohgdlojaaDoorMemAt
namespace Go.Proofs.YtbhficohgdlojaaDoor
open Go.RowKit
set_option linter.unusedVariables false

theorem bc0 {V : World} {B : Nat} {ty : TypeId} {a b : Value} (h : Blk V B ty #[a, b]) : V.cell? ⟨B, 0, none⟩ = some a := h.cell 0
theorem bc1 {V : World} {B : Nat} {ty : TypeId} {a b : Value} (h : Blk V B ty #[a, b]) : V.cell? ⟨B, 1, none⟩ = some b := h.cell 1
/-- A tree under way: its box at R + 1, the result's box at R, its row above. -/
structure TC (w : World) (B g : Nat) (V : World) (R a : Nat) (A : Option Addr) (c : Nat) (xs : List Int) (s : ByteArray) : Prop where
  t : Blk V (R + 1) 26 #[.slice A xs.length c, .string s]
  o : OwnI V (R + 2) (.slice A xs.length c) xs
  r : Blk V R 26 #[.slice none 0 0, .string ⟨#[]⟩]
  c : Cur V B g a
  b : Gb w.heap.size g w V
  gr : g < R
  wr : w.heap.size ≤ R
theorem TC.lt {w : World} {B g : Nat} {V : World} {R a : Nat} {A : Option Addr} {c : Nat} {xs : List Int} {s : ByteArray} (h : TC w B g V R a A c xs s) : R + 2 ≤ V.heap.size := by
  have := h.t.lt
  omega
theorem TC.gb {w : World} {B g : Nat} {V V' : World} {R a a' : Nat} {A : Option Addr} {c : Nat} {xs : List Int} {s : ByteArray} (h : TC w B g V R a A c xs s) (hc : Cur V' B g a') (hg : Gb V.heap.size g V V') : TC w B g V' R a' A c xs s := by
  have h1 := h.lt
  have h2 := h.gr
  have h3 := h.wr
  exact ⟨h.t.gb hg (by omega) (by omega), own_ints.2 (Own.gb (own_ints.1 h.o) (by omega) hg), h.r.gb hg (by omega) (by omega), hc, h.b.trans (hg.mono (by omega)), h.gr, h.wr⟩
theorem TC.below {w : World} {B g : Nat} {V V' : World} {R a : Nat} {A : Option Addr} {c : Nat} {xs : List Int} {s : ByteArray} (h : TC w B g V R a A c xs s) (hb : Below V.heap.size V V') : TC w B g V' R a A c xs s :=
  h.gb (h.c.below hb) (Gb.of_below hb)
theorem TC.more {w : World} {B g : Nat} {V : World} {R a a' : Nat} {A : Option Addr} {c : Nat} {xs : List Int} {s : ByteArray} (h : TC w B g V R a A c xs s) (ha : a ≤ a') : TC w B g V R a' A c xs s :=
  ⟨h.t, h.o, h.r, h.c.more ha, h.b, h.gr, h.wr⟩
theorem TC.sign {w : World} {B g : Nat} {V : World} {R a : Nat} {A : Option Addr} {c : Nat} {xs : List Int} {s : ByteArray} (h : TC w B g V R a A c xs s) (t : ByteArray) : TC w B g (V.setCell ⟨R + 1, 1, none⟩ (.string t)) R a A c xs t := by
  have h1 := h.lt
  have h2 := h.gr
  have h3 := h.wr
  exact ⟨h.t.set 1 _, own_ints.2 ((own_ints.1 h.o).far _ _ fun e => by have := ((own_ints.1 h.o).lt _ e).1; dsimp only at this; omega), h.r.far (by dsimp only; omega) _, h.c.put _ (by dsimp only; omega) _, h.b.put _ (by dsimp only; omega) _, h.gr, h.wr⟩
/-- Behind an append: the new row is put into the box. -/
theorem TC.app {w : World} {B g : Nat} {V V' : World} {R a : Nat} {A A' : Option Addr} {c c' : Nat} {xs ys : List Int} {s : ByteArray} {row : Option Nat} (h : TC w B g V R a A c xs s) {n : Nat} (hn : n = ys.length) (ho : OwnI V' (R + 2) (.slice A' n c') ys) (hb : Below (R + 2) V V') (hgr : V.grownBy V' row) (hrow : ∀ y, row = some y → R + 2 ≤ y) : TC w B g (V'.setCell ⟨R + 1, 0, none⟩ (.slice A' n c')) R a A' c' ys s := by
  subst hn
  have h1 := h.lt
  have h2 := h.gr
  have h3 := h.wr
  exact ⟨(h.t.below hb (by omega)).set 0 _, own_ints.2 ((own_ints.1 ho).far _ _ fun e => by have := ((own_ints.1 ho).lt _ e).1; dsimp only at this; omega), (h.r.below hb (by omega)).far (by dsimp only; omega) _, (h.c.ownb hgr fun y hy => by have := hrow y hy; omega).put _ (by dsimp only; omega) _, (h.b.trans (Gb.of_below (hb.mono (by omega)))).put _ (by dsimp only; omega) _, h.gr, h.wr⟩
theorem TC.row {w : World} {B g : Nat} {V : World} {R a : Nat} {A : Option Addr} {c : Nat} {xs : List Int} {s : ByteArray} (h : TC w B g V R a A c xs s) : ∀ y, (Value.slice A xs.length c).ownBlock = some y → R + 2 ≤ y := fun y hy => ((own_ints.1 h.o).lt _ hy).1

/-- A drawn tree. -/
def DrawnTr (w : World) (B g a : Nat) (e : Ending) (w' : World) : Prop := ∃ (A : Option Addr) (c : Nat) (xs : List Int) (s : ByteArray), e = .returned (.agg #[.slice A xs.length c, .string s]) ∧ OwnI w' w.heap.size (.slice A xs.length c) xs ∧ s.size ≤ 1000 ∧ Cur w' B g a ∧ Gb w.heap.size g w w'
theorem TC.done {w : World} {B g : Nat} {V : World} {R a a' : Nat} {A : Option Addr} {c : Nat} {xs : List Int} {s : ByteArray} (h : TC w B g V R a A c xs s) (hR : R = w.heap.size) (hs : s.size ≤ 1000) (ha : a ≤ a') :
    ((V.setCell ⟨R, 0, none⟩ (.slice A xs.length c)).setCell ⟨R, 1, none⟩ (.string s)).cell? ⟨R, 0, none⟩ = some (.slice A xs.length c) ∧ ((V.setCell ⟨R, 0, none⟩ (.slice A xs.length c)).setCell ⟨R, 1, none⟩ (.string s)).cell? ⟨R, 1, none⟩ = some (.string s) ∧
    DrawnTr w B g a' (.returned (.agg #[.slice A xs.length c, .string s])) ((V.setCell ⟨R, 0, none⟩ (.slice A xs.length c)).setCell ⟨R, 1, none⟩ (.string s)) := by
  have h1 := h.lt
  have h2 := h.gr
  have h3 := h.wr
  have hr : Blk ((V.setCell ⟨R, 0, none⟩ (.slice A xs.length c)).setCell ⟨R, 1, none⟩ (.string s)) R 26 #[.slice A xs.length c, .string s] := (h.r.set 0 _).set 1 _
  refine ⟨bc0 hr, bc1 hr, A, c, xs, s, rfl, own_ints.2 (Own.le (Own.far (Own.far (own_ints.1 h.o) _ _ fun e => ?_) _ _ fun e => ?_) (by omega)), hs, ((h.c.put _ (by dsimp only; omega) _).put _ (by dsimp only; omega) _).more ha, (h.b.put _ (by dsimp only; omega) _).put _ (by dsimp only; omega) _⟩
  · have := ((own_ints.1 h.o).lt _ e).1; dsimp only at this; omega
  · have := ((own_ints.1 h.o).lt _ e).1; dsimp only at this; omega

/-- The length of the row in a tree's box. -/
def upLen (V : World) (g : Nat) : Nat := match V.cell? ⟨g, 0, none⟩ with | some (.slice _ n _) => n | _ => 0
theorem TC.upLen {w : World} {B g : Nat} {V : World} {R a : Nat} {A : Option Addr} {c : Nat} {xs : List Int} {s : ByteArray} (h : TC w B g V R a A c xs s) : upLen V (R + 1) = xs.length := by
  unfold Go.Proofs.YtbhficohgdlojaaDoor.upLen
  rw [bc0 h.t]

set_option maxRecDepth 100000 in
set_option maxHeartbeats 6400000 in
theorem drawTree_any (w : World) (B g a : Nat) (most : Int) (h : Cur w B g a) (ha : a ≤ 100000000) (hm1 : 0 ≤ most) (hm2 : most ≤ 100) :
    Calls Tryd.prog 32 #[.pointer (some ⟨g, 0, none⟩), .int .i64 most] w (DrawnTr w B g (a + 2000)) := by
  have hlt0 := h.lt
  go_enter Tryd.func32, Tryd.ntmps32
  go_wp2_with fail
  have h0 : TC w B g ((w.alloc (.cells #[.slice none 0 0, .string ⟨#[]⟩] 26)).alloc (.cells #[.slice none 0 0, .string ⟨#[]⟩] 26)) w.heap.size a none 0 [] ⟨#[]⟩ :=
    ⟨Blk.new_at _ _ _ (by simp), own_ints.2 ⟨by simp, Or.inl ⟨rfl, rfl⟩⟩, (Blk.new _ _ _).alloc _, (h.below (bel1 _ _)).below (bel1 _ _), (Gb.of_below (bel1 _ _)).trans (Gb.of_below ((bel1 _ _).mono (by simp))), hlt0, Nat.le_refl _⟩
  obtain ⟨R, hR⟩ : ∃ R, R = w.heap.size := ⟨_, rfl⟩
  rw [← hR] at h0 ⊢
  generalize (w.alloc (.cells #[.slice none 0 0, .string ⟨#[]⟩] 26)).alloc (.cells #[.slice none 0 0, .string ⟨#[]⟩] 26) = W at *
  have HR := Lib.hid hR; clear hR h
  ((with_reducible refine (pickI _ _ _ _ _ h0.c (by omega) (by omega) (by omega)).mono ?_); rintro e w1 ⟨n, ⟨hn0, hn1⟩, rfl, hc1, hg1⟩)
  have h1 := h0.gb hc1 hg1
  obtain ⟨n, rfl⟩ := Int.eq_ofNat_of_zero_le hn0
  have H1 := Lib.hid h1
  clear h0 h1 hc1 hg1 W
  go_wp2
  go_loopw [7, 8] (fun i up wr => ∃ (k : Nat) (A : Option Addr) (c : Nat) (xs : List Int) (s : ByteArray), i = .int .i64 k ∧ k ≤ n ∧ xs.length = k ∧ s.size ≤ k ∧ TC w B g wr R (a + 2 + 6 * k) A c xs s) (fun i _ _ => 200 - (intOf i).toNat)
  case atStart => exact ⟨0, none, 0, [], ⟨#[]⟩, rfl, by omega, rfl, Nat.le_refl _, H1.out⟩
  case round =>
    obtain ⟨k, A, c, xs, s, rfl, hk, hxl, hsz, hT⟩ := hrel
    clear H1
    by_cases hkn : k < n
    · go_wp2_with fail
      ((with_reducible refine (pickI _ _ _ _ _ hT.c (by omega) (by omega) (by omega)).mono ?_); rintro e w2 ⟨x, ⟨hx0, hx1⟩, rfl, hc2, hg2⟩)
      have hT2 := hT.gb hc2 hg2
      clear hT hc2 hg2
      go_wp2_with fail
      ((with_reducible refine (oneI _ _ _ _ _ hT2.c (by omega) (by decide) (by decide)).mono ?_); rintro e w3 ⟨b, rfl, hc3, hg3⟩)
      have hT3 := hT2.gb hc3 hg3
      clear hT2 hc3 hg3
      cases b
      · have e0 := bc0 hT3.t
        have hb3 := hT3.t.below (bel1 w3 (.cells #[.int .i64 ((x-1))] 3)) hT3.t.lt
        have HO3 := Lib.hid (hT3.o.below (bel1 w3 (.cells #[.int .i64 ((x-1))] 3)))
        have hT3a := hT3.below (bel1 w3 (.cells #[.int .i64 ((x-1))] 3))
        have hz3 := hT3.lt
        have hx3 : xs.length ≤ 900000000 := by omega
        have HXL := Lib.hid hxl
        clear hxl
        go_wp2_with (at_builtin; refine append_int_at rfl _ _ rfl (R + 2) _ xs rfl HO3.out w3.heap.size ((x-1)) rfl (Blk.new _ _ _) hx3 (by simp; omega) ?_; intro A4 c4 w4 ho4 hb4 hg4 hp4; have hB4 := hb3.below hb4 (by omega); have q0 := bc0 hB4; have q0f := hB4.frozen 0; rw [HXL.out] at ho4 hp4 ⊢)
        have hT4 := hT3a.app (n := k + 1) (by rw [List.length_append, HXL.out, List.length_singleton]) ho4 hb4 hg4 hT3.row
        have hyl : (xs ++ [(x-1)]).length = k + 1 := by rw [List.length_append, HXL.out, List.length_singleton]
        generalize xs ++ [(x-1)] = ys at *
        clear e0 hb3 HO3 hT3a hT3 hb4 hg4 hp4 hB4 q0 q0f ho4 hx3 hz3
        obtain ⟨V, hV⟩ : ∃ V, V = w4.setCell ⟨R + 1, 0, none⟩ (.slice A4 (k + 1) c4) := ⟨_, rfl⟩
        rw [← hV] at hT4 ⊢
        clear hV
        have hTe := (hT4.below (bel1 V (.cells #[.string ⟨#[76]⟩, .string ⟨#[82]⟩] 9))).below gdrew
        have e1 : V.cell? ⟨R + 1, 1, none⟩ = some (.string s) := bc1 hT4.t
        have e2 := bc1 hTe.t
        have HYL := Lib.hid hyl
        clear hyl
        have hK2 : Blk (V.alloc (.cells #[.string ⟨#[76]⟩, .string ⟨#[82]⟩] 9)).drew V.heap.size 9 (scells [(⟨#[76]⟩ : ByteArray), (⟨#[82]⟩ : ByteArray)]).toArray := Blk.new V _ _
        have hof : Calls Tryd.prog 64 #[.pointer (some ⟨g, 0, none⟩), .slice (some ⟨V.heap.size, 0, none⟩) 2 2] _ _ := of_any _ B g _ 1 (some ⟨V.heap.size, 0, none⟩) 2 [(⟨#[76]⟩ : ByteArray), (⟨#[82]⟩ : ByteArray)] hTe.c (by omega) (rd_strs _ hK2 (by decide)) (fun b hb => by injection hb with hb; subst hb; have := hT4.lt; have := hT4.gr; show g + 1 ≤ V.heap.size; omega) (by decide) (by decide) (by decide)
        have HOF := Lib.hid hof
        clear hK2 hof
        refine wp_region_held_drew (S := fun _ => True) (by kernel_rfl) trivial (fun hHeld => ?_)
        refine wpAnyH_take (i := 0) (oi := _) (v := ?vtta0) rfl (by kernel_rfl) (by kernel_rfl) (by kernel_rfl) (fun _ _ _ h => h) (Or.inl ⟨by rfl, ?hyta0⟩) (by assumption) ?_
        case hyta0 => (intro wh hSw; (try dsimp only at hSw); go_simp; try with_reducible rfl)
        simp only [Act.put]
        refine wpAnyH_take (i := 2) (oi := _) (v := ?vtta2) rfl (by kernel_rfl) (by kernel_rfl) (by kernel_rfl) (fun _ _ _ h => h) (Or.inl ⟨by rfl, ?hyta2⟩) (by assumption) ?_
        case hyta2 => (intro wh hSw; (try dsimp only at hSw); go_simp; try with_reducible rfl)
        simp only [Act.put]
        refine wpAnyH_ready (rs := [1, 3]) (by kernel_rfl) (by simp) ?_
        refine AllReadyH.cons (o := _) rfl (fun K hK => ?_) (AllReadyH.cons (o := _) rfl (fun K hK => ?_) AllReadyH.nil)
        · go_simp
          refine hK.out _ _ trivial (fun hHeld => ?_)
          clear hK K
          try simp only [Act.put]
          refine wpAnyH_ready (rs := [3]) (by kernel_rfl) (by simp) ?_
          refine AllReadyH.cons (o := _) rfl (fun K hK => ?_) AllReadyH.nil
          go_simp
          refine hK.out _ _ trivial (fun hHeld => ?_)
          clear hK K
          try simp only [Act.put]
          refine wpAnyH_ready (rs := [4]) (by kernel_rfl) (by simp) ?_
          refine AllReadyH.cons (o := _) rfl (fun K hK => ?_) AllReadyH.nil
          go_simp
          go_at_call 64
          ((with_reducible refine (HOF.out).mono ?_); rintro e w6 ⟨t, rfl, ht, hc6, hg6⟩)
          have hT6 := hTe.gb hc6 hg6
          clear hTe HOF hg6 e1 e2
          dsimp only
          refine hK.out _ _ trivial (fun hHeld => ?_)
          clear hK K
          try simp only [Act.put]
          obtain ⟨st, hst⟩ : ∃ r, r = s ++ t := ⟨_, rfl⟩
          have hadd := fun w => run_string_add_sum (P := Tryd.prog) w s t (by omega)
          rw [← hst] at hadd
          have hzs : st.size ≤ s.size + 1 := by rw [hst, ByteArray.size_append]; omega
          clear hst
          have p1 := bc1 hT6.t
          have pf1 := hT6.t.frozen 1
          refine wpAnyH_ready (rs := [5]) (by kernel_rfl) (by simp) ?_
          refine AllReadyH.cons (o := _) rfl (fun K hK => ?_) AllReadyH.nil
          go_simp
          refine hK.out _ _ trivial (fun hHeld => ?_)
          clear hK K
          try simp only [Act.put]
          refine wpAnyH_ready (rs := [6]) (by kernel_rfl) (by simp) ?_
          refine AllReadyH.cons (o := _) rfl (fun K hK => ?_) AllReadyH.nil
          go_simp
          refine hK.out _ _ trivial (fun hHeld => ?_)
          clear hK K
          try simp only [Act.put]
          refine wpAnyH_ready (rs := [7]) (by kernel_rfl) (by simp) ?_
          refine AllReadyH.cons (o := _) rfl (fun K hK => ?_) AllReadyH.nil
          go_simp
          refine hK.out _ _ trivial (fun hHeld => ?_)
          clear hK K
          try simp only [Act.put]
          refine wpAnyH_done (by kernel_rfl) ?_ _
          have hT7 := hT6.sign st
          clear hadd p1 pf1 hT6
          go_wp2
          go_roundw
          case rel => exact ⟨k + 1, A4, c4, ys, st, by go_num, by omega, HYL.out, by omega, hT7.more (by omega)⟩
          case measure => simp [intOf]; omega
        · go_simp
          refine hK.out _ _ trivial (fun hHeld => ?_)
          clear hK K
          try simp only [Act.put]
          refine wpAnyH_ready (rs := [1, 4]) (by kernel_rfl) (by simp) ?_
          refine AllReadyH.cons (o := _) rfl (fun K hK => ?_) (AllReadyH.cons (o := _) rfl (fun K hK => ?_) AllReadyH.nil)
          · go_simp
            refine hK.out _ _ trivial (fun hHeld => ?_)
            clear hK K
            try simp only [Act.put]
            refine wpAnyH_ready (rs := [4]) (by kernel_rfl) (by simp) ?_
            refine AllReadyH.cons (o := _) rfl (fun K hK => ?_) AllReadyH.nil
            go_simp
            go_at_call 64
            ((with_reducible refine (HOF.out).mono ?_); rintro e w6 ⟨t, rfl, ht, hc6, hg6⟩)
            have hT6 := hTe.gb hc6 hg6
            clear hTe HOF hg6 e1 e2
            dsimp only
            refine hK.out _ _ trivial (fun hHeld => ?_)
            clear hK K
            try simp only [Act.put]
            obtain ⟨st, hst⟩ : ∃ r, r = s ++ t := ⟨_, rfl⟩
            have hadd := fun w => run_string_add_sum (P := Tryd.prog) w s t (by omega)
            rw [← hst] at hadd
            have hzs : st.size ≤ s.size + 1 := by rw [hst, ByteArray.size_append]; omega
            clear hst
            have p1 := bc1 hT6.t
            have pf1 := hT6.t.frozen 1
            refine wpAnyH_ready (rs := [5]) (by kernel_rfl) (by simp) ?_
            refine AllReadyH.cons (o := _) rfl (fun K hK => ?_) AllReadyH.nil
            go_simp
            refine hK.out _ _ trivial (fun hHeld => ?_)
            clear hK K
            try simp only [Act.put]
            refine wpAnyH_ready (rs := [6]) (by kernel_rfl) (by simp) ?_
            refine AllReadyH.cons (o := _) rfl (fun K hK => ?_) AllReadyH.nil
            go_simp
            refine hK.out _ _ trivial (fun hHeld => ?_)
            clear hK K
            try simp only [Act.put]
            refine wpAnyH_ready (rs := [7]) (by kernel_rfl) (by simp) ?_
            refine AllReadyH.cons (o := _) rfl (fun K hK => ?_) AllReadyH.nil
            go_simp
            refine hK.out _ _ trivial (fun hHeld => ?_)
            clear hK K
            try simp only [Act.put]
            refine wpAnyH_done (by kernel_rfl) ?_ _
            have hT7 := hT6.sign st
            clear hadd p1 pf1 hT6
            go_wp2
            go_roundw
            case rel => exact ⟨k + 1, A4, c4, ys, st, by go_num, by omega, HYL.out, by omega, hT7.more (by omega)⟩
            case measure => simp [intOf]; omega
          · go_simp
            go_at_call 64
            ((with_reducible refine (HOF.out).mono ?_); rintro e w6 ⟨t, rfl, ht, hc6, hg6⟩)
            have hT6 := hTe.gb hc6 hg6
            clear hTe HOF hg6 e1 e2
            have p1 := bc1 hT6.t
            dsimp only
            refine hK.out _ _ trivial (fun hHeld => ?_)
            clear hK K
            try simp only [Act.put]
            refine wpAnyH_ready (rs := [1]) (by kernel_rfl) (by simp) ?_
            refine AllReadyH.cons (o := _) rfl (fun K hK => ?_) AllReadyH.nil
            go_simp
            refine hK.out _ _ trivial (fun hHeld => ?_)
            clear hK K
            try simp only [Act.put]
            clear p1
            obtain ⟨st, hst⟩ : ∃ r, r = s ++ t := ⟨_, rfl⟩
            have hadd := fun w => run_string_add_sum (P := Tryd.prog) w s t (by omega)
            rw [← hst] at hadd
            have hzs : st.size ≤ s.size + 1 := by rw [hst, ByteArray.size_append]; omega
            clear hst
            have p1 := bc1 hT6.t
            have pf1 := hT6.t.frozen 1
            refine wpAnyH_ready (rs := [5]) (by kernel_rfl) (by simp) ?_
            refine AllReadyH.cons (o := _) rfl (fun K hK => ?_) AllReadyH.nil
            go_simp
            refine hK.out _ _ trivial (fun hHeld => ?_)
            clear hK K
            try simp only [Act.put]
            refine wpAnyH_ready (rs := [6]) (by kernel_rfl) (by simp) ?_
            refine AllReadyH.cons (o := _) rfl (fun K hK => ?_) AllReadyH.nil
            go_simp
            refine hK.out _ _ trivial (fun hHeld => ?_)
            clear hK K
            try simp only [Act.put]
            refine wpAnyH_ready (rs := [7]) (by kernel_rfl) (by simp) ?_
            refine AllReadyH.cons (o := _) rfl (fun K hK => ?_) AllReadyH.nil
            go_simp
            refine hK.out _ _ trivial (fun hHeld => ?_)
            clear hK K
            try simp only [Act.put]
            refine wpAnyH_done (by kernel_rfl) ?_ _
            have hT7 := hT6.sign st
            clear hadd p1 pf1 hT6
            go_wp2
            go_roundw
            case rel => exact ⟨k + 1, A4, c4, ys, st, by go_num, by omega, HYL.out, by omega, hT7.more (by omega)⟩
            case measure => simp [intOf]; omega
      · have e0 := bc0 hT3.t
        have hb3 := hT3.t.below (bel1 w3 (.cells #[.int .i64 (((k:Int)-1))] 3)) hT3.t.lt
        have HO3 := Lib.hid (hT3.o.below (bel1 w3 (.cells #[.int .i64 (((k:Int)-1))] 3)))
        have hT3a := hT3.below (bel1 w3 (.cells #[.int .i64 (((k:Int)-1))] 3))
        have hz3 := hT3.lt
        have hx3 : xs.length ≤ 900000000 := by omega
        have HXL := Lib.hid hxl
        clear hxl
        go_wp2_with (at_builtin; refine append_int_at rfl _ _ rfl (R + 2) _ xs rfl HO3.out w3.heap.size (((k:Int)-1)) rfl (Blk.new _ _ _) hx3 (by simp; omega) ?_; intro A4 c4 w4 ho4 hb4 hg4 hp4; have hB4 := hb3.below hb4 (by omega); have q0 := bc0 hB4; have q0f := hB4.frozen 0; rw [HXL.out] at ho4 hp4 ⊢)
        have hT4 := hT3a.app (n := k + 1) (by rw [List.length_append, HXL.out, List.length_singleton]) ho4 hb4 hg4 hT3.row
        have hyl : (xs ++ [((k:Int)-1)]).length = k + 1 := by rw [List.length_append, HXL.out, List.length_singleton]
        generalize xs ++ [((k:Int)-1)] = ys at *
        clear e0 hb3 HO3 hT3a hT3 hb4 hg4 hp4 hB4 q0 q0f ho4 hx3 hz3
        obtain ⟨V, hV⟩ : ∃ V, V = w4.setCell ⟨R + 1, 0, none⟩ (.slice A4 (k + 1) c4) := ⟨_, rfl⟩
        rw [← hV] at hT4 ⊢
        clear hV
        have hTe := (hT4.below (bel1 V (.cells #[.string ⟨#[76]⟩, .string ⟨#[82]⟩] 9))).below gdrew
        have e1 : V.cell? ⟨R + 1, 1, none⟩ = some (.string s) := bc1 hT4.t
        have e2 := bc1 hTe.t
        have HYL := Lib.hid hyl
        clear hyl
        have hK2 : Blk (V.alloc (.cells #[.string ⟨#[76]⟩, .string ⟨#[82]⟩] 9)).drew V.heap.size 9 (scells [(⟨#[76]⟩ : ByteArray), (⟨#[82]⟩ : ByteArray)]).toArray := Blk.new V _ _
        have hof : Calls Tryd.prog 64 #[.pointer (some ⟨g, 0, none⟩), .slice (some ⟨V.heap.size, 0, none⟩) 2 2] _ _ := of_any _ B g _ 1 (some ⟨V.heap.size, 0, none⟩) 2 [(⟨#[76]⟩ : ByteArray), (⟨#[82]⟩ : ByteArray)] hTe.c (by omega) (rd_strs _ hK2 (by decide)) (fun b hb => by injection hb with hb; subst hb; have := hT4.lt; have := hT4.gr; show g + 1 ≤ V.heap.size; omega) (by decide) (by decide) (by decide)
        have HOF := Lib.hid hof
        clear hK2 hof
        refine wp_region_held_drew (S := fun _ => True) (by kernel_rfl) trivial (fun hHeld => ?_)
        refine wpAnyH_take (i := 0) (oi := _) (v := ?vttb0) rfl (by kernel_rfl) (by kernel_rfl) (by kernel_rfl) (fun _ _ _ h => h) (Or.inl ⟨by rfl, ?hytb0⟩) (by assumption) ?_
        case hytb0 => (intro wh hSw; (try dsimp only at hSw); go_simp; try with_reducible rfl)
        simp only [Act.put]
        refine wpAnyH_take (i := 2) (oi := _) (v := ?vttb2) rfl (by kernel_rfl) (by kernel_rfl) (by kernel_rfl) (fun _ _ _ h => h) (Or.inl ⟨by rfl, ?hytb2⟩) (by assumption) ?_
        case hytb2 => (intro wh hSw; (try dsimp only at hSw); go_simp; try with_reducible rfl)
        simp only [Act.put]
        refine wpAnyH_ready (rs := [1, 3]) (by kernel_rfl) (by simp) ?_
        refine AllReadyH.cons (o := _) rfl (fun K hK => ?_) (AllReadyH.cons (o := _) rfl (fun K hK => ?_) AllReadyH.nil)
        · go_simp
          refine hK.out _ _ trivial (fun hHeld => ?_)
          clear hK K
          try simp only [Act.put]
          refine wpAnyH_ready (rs := [3]) (by kernel_rfl) (by simp) ?_
          refine AllReadyH.cons (o := _) rfl (fun K hK => ?_) AllReadyH.nil
          go_simp
          refine hK.out _ _ trivial (fun hHeld => ?_)
          clear hK K
          try simp only [Act.put]
          refine wpAnyH_ready (rs := [4]) (by kernel_rfl) (by simp) ?_
          refine AllReadyH.cons (o := _) rfl (fun K hK => ?_) AllReadyH.nil
          go_simp
          go_at_call 64
          ((with_reducible refine (HOF.out).mono ?_); rintro e w6 ⟨t, rfl, ht, hc6, hg6⟩)
          have hT6 := hTe.gb hc6 hg6
          clear hTe HOF hg6 e1 e2
          dsimp only
          refine hK.out _ _ trivial (fun hHeld => ?_)
          clear hK K
          try simp only [Act.put]
          obtain ⟨st, hst⟩ : ∃ r, r = s ++ t := ⟨_, rfl⟩
          have hadd := fun w => run_string_add_sum (P := Tryd.prog) w s t (by omega)
          rw [← hst] at hadd
          have hzs : st.size ≤ s.size + 1 := by rw [hst, ByteArray.size_append]; omega
          clear hst
          have p1 := bc1 hT6.t
          have pf1 := hT6.t.frozen 1
          refine wpAnyH_ready (rs := [5]) (by kernel_rfl) (by simp) ?_
          refine AllReadyH.cons (o := _) rfl (fun K hK => ?_) AllReadyH.nil
          go_simp
          refine hK.out _ _ trivial (fun hHeld => ?_)
          clear hK K
          try simp only [Act.put]
          refine wpAnyH_ready (rs := [6]) (by kernel_rfl) (by simp) ?_
          refine AllReadyH.cons (o := _) rfl (fun K hK => ?_) AllReadyH.nil
          go_simp
          refine hK.out _ _ trivial (fun hHeld => ?_)
          clear hK K
          try simp only [Act.put]
          refine wpAnyH_ready (rs := [7]) (by kernel_rfl) (by simp) ?_
          refine AllReadyH.cons (o := _) rfl (fun K hK => ?_) AllReadyH.nil
          go_simp
          refine hK.out _ _ trivial (fun hHeld => ?_)
          clear hK K
          try simp only [Act.put]
          refine wpAnyH_done (by kernel_rfl) ?_ _
          have hT7 := hT6.sign st
          clear hadd p1 pf1 hT6
          go_wp2
          go_roundw
          case rel => exact ⟨k + 1, A4, c4, ys, st, by go_num, by omega, HYL.out, by omega, hT7.more (by omega)⟩
          case measure => simp [intOf]; omega
        · go_simp
          refine hK.out _ _ trivial (fun hHeld => ?_)
          clear hK K
          try simp only [Act.put]
          refine wpAnyH_ready (rs := [1, 4]) (by kernel_rfl) (by simp) ?_
          refine AllReadyH.cons (o := _) rfl (fun K hK => ?_) (AllReadyH.cons (o := _) rfl (fun K hK => ?_) AllReadyH.nil)
          · go_simp
            refine hK.out _ _ trivial (fun hHeld => ?_)
            clear hK K
            try simp only [Act.put]
            refine wpAnyH_ready (rs := [4]) (by kernel_rfl) (by simp) ?_
            refine AllReadyH.cons (o := _) rfl (fun K hK => ?_) AllReadyH.nil
            go_simp
            go_at_call 64
            ((with_reducible refine (HOF.out).mono ?_); rintro e w6 ⟨t, rfl, ht, hc6, hg6⟩)
            have hT6 := hTe.gb hc6 hg6
            clear hTe HOF hg6 e1 e2
            dsimp only
            refine hK.out _ _ trivial (fun hHeld => ?_)
            clear hK K
            try simp only [Act.put]
            obtain ⟨st, hst⟩ : ∃ r, r = s ++ t := ⟨_, rfl⟩
            have hadd := fun w => run_string_add_sum (P := Tryd.prog) w s t (by omega)
            rw [← hst] at hadd
            have hzs : st.size ≤ s.size + 1 := by rw [hst, ByteArray.size_append]; omega
            clear hst
            have p1 := bc1 hT6.t
            have pf1 := hT6.t.frozen 1
            refine wpAnyH_ready (rs := [5]) (by kernel_rfl) (by simp) ?_
            refine AllReadyH.cons (o := _) rfl (fun K hK => ?_) AllReadyH.nil
            go_simp
            refine hK.out _ _ trivial (fun hHeld => ?_)
            clear hK K
            try simp only [Act.put]
            refine wpAnyH_ready (rs := [6]) (by kernel_rfl) (by simp) ?_
            refine AllReadyH.cons (o := _) rfl (fun K hK => ?_) AllReadyH.nil
            go_simp
            refine hK.out _ _ trivial (fun hHeld => ?_)
            clear hK K
            try simp only [Act.put]
            refine wpAnyH_ready (rs := [7]) (by kernel_rfl) (by simp) ?_
            refine AllReadyH.cons (o := _) rfl (fun K hK => ?_) AllReadyH.nil
            go_simp
            refine hK.out _ _ trivial (fun hHeld => ?_)
            clear hK K
            try simp only [Act.put]
            refine wpAnyH_done (by kernel_rfl) ?_ _
            have hT7 := hT6.sign st
            clear hadd p1 pf1 hT6
            go_wp2
            go_roundw
            case rel => exact ⟨k + 1, A4, c4, ys, st, by go_num, by omega, HYL.out, by omega, hT7.more (by omega)⟩
            case measure => simp [intOf]; omega
          · go_simp
            go_at_call 64
            ((with_reducible refine (HOF.out).mono ?_); rintro e w6 ⟨t, rfl, ht, hc6, hg6⟩)
            have hT6 := hTe.gb hc6 hg6
            clear hTe HOF hg6 e1 e2
            have p1 := bc1 hT6.t
            dsimp only
            refine hK.out _ _ trivial (fun hHeld => ?_)
            clear hK K
            try simp only [Act.put]
            refine wpAnyH_ready (rs := [1]) (by kernel_rfl) (by simp) ?_
            refine AllReadyH.cons (o := _) rfl (fun K hK => ?_) AllReadyH.nil
            go_simp
            refine hK.out _ _ trivial (fun hHeld => ?_)
            clear hK K
            try simp only [Act.put]
            clear p1
            obtain ⟨st, hst⟩ : ∃ r, r = s ++ t := ⟨_, rfl⟩
            have hadd := fun w => run_string_add_sum (P := Tryd.prog) w s t (by omega)
            rw [← hst] at hadd
            have hzs : st.size ≤ s.size + 1 := by rw [hst, ByteArray.size_append]; omega
            clear hst
            have p1 := bc1 hT6.t
            have pf1 := hT6.t.frozen 1
            refine wpAnyH_ready (rs := [5]) (by kernel_rfl) (by simp) ?_
            refine AllReadyH.cons (o := _) rfl (fun K hK => ?_) AllReadyH.nil
            go_simp
            refine hK.out _ _ trivial (fun hHeld => ?_)
            clear hK K
            try simp only [Act.put]
            refine wpAnyH_ready (rs := [6]) (by kernel_rfl) (by simp) ?_
            refine AllReadyH.cons (o := _) rfl (fun K hK => ?_) AllReadyH.nil
            go_simp
            refine hK.out _ _ trivial (fun hHeld => ?_)
            clear hK K
            try simp only [Act.put]
            refine wpAnyH_ready (rs := [7]) (by kernel_rfl) (by simp) ?_
            refine AllReadyH.cons (o := _) rfl (fun K hK => ?_) AllReadyH.nil
            go_simp
            refine hK.out _ _ trivial (fun hHeld => ?_)
            clear hK K
            try simp only [Act.put]
            refine wpAnyH_done (by kernel_rfl) ?_ _
            have hT7 := hT6.sign st
            clear hadd p1 pf1 hT6
            go_wp2
            go_roundw
            case rel => exact ⟨k + 1, A4, c4, ys, st, by go_num, by omega, HYL.out, by omega, hT7.more (by omega)⟩
            case measure => simp [intOf]; omega
    · obtain rfl : k = n := by omega
      have hxn : xs.length ≤ 100 := by omega
      have HXL := Lib.hid hxl
      clear hxl
      go_wp2_with fail
      ((with_reducible refine (oneI _ _ _ _ _ hT.c (by omega) (by decide) (by decide)).mono ?_); rintro e w2 ⟨b, rfl, hc2, hg2⟩)
      have hT2 := hT.gb hc2 hg2
      clear hT hc2 hg2
      cases b
      · have u0 := bc0 hT2.t
        have u1 := bc1 hT2.t
        have r0 := bc0 hT2.r
        have r1 := bc1 hT2.r
        have rf0 := hT2.r.frozen 0
        have rf1 := hT2.r.frozen 1
        have HF := Lib.hid hT2
        clear hT2
        go_wp2
        obtain ⟨f0, f1, fd⟩ := (HF.out).done HR.out (show _ ≤ 1000 by omega) (show _ ≤ a + 2000 by omega)
        exact bodyPost_ret (v := .agg #[.slice _ _ _, .string _]) (by simp only [results, Tryd.results32]; simp [go_sem, f0, f1]) rfl fd
      · have hk9 : k ≤ 100 := by omega
        clear hn0 hn1 hk hkn HXL
        go_wp2_with fail
        ((with_reducible refine (pickI _ _ _ _ _ hT2.c (by omega) (by decide) (by decide)).mono ?_); rintro e w3 ⟨x, ⟨hx0, hx1⟩, rfl, hc3, hg3⟩)
        have hT3 := hT2.gb hc3 hg3
        clear hT2 hc3 hg3
        by_cases e0 : x = 0
        · subst e0
          have u1 := bc1 hT3.t
          go_wp2_with fail
          clear u1
          ((with_reducible refine (spoilt_any _ _ _ _ s ⟨#[76, 82, 120]⟩ hT3.c (by omega) (by omega) (by decide) (by decide)).mono ?_); rintro e w4 ⟨t, rfl, ht, hc4, hg4⟩)
          have hT4 := hT3.gb hc4 hg4
          clear hT3 hc4 hg4
          have p1 := bc1 hT4.t
          have pf1 := hT4.t.frozen 1
          have hT5 := hT4.sign t
          clear hT4
          have u0 := bc0 hT5.t
          have u1 := bc1 hT5.t
          have r0 := bc0 hT5.r
          have r1 := bc1 hT5.r
          have rf0 := hT5.r.frozen 0
          have rf1 := hT5.r.frozen 1
          have HF := Lib.hid hT5
          clear hT5
          go_wp2
          obtain ⟨f0, f1, fd⟩ := (HF.out).done HR.out (show _ ≤ 1000 by omega) (show _ ≤ a + 2000 by omega)
          exact bodyPost_ret (v := .agg #[.slice _ _ _, .string _]) (by simp only [results, Tryd.results32]; simp [go_sem, f0, f1]) rfl fd
        · by_cases e1 : x = 1
          · subst e1
            go_wp2_with fail
            have hTe := (hT3.below (bel1 w3 (.cells #[.int .i64 (-1), .int .i64 (-2), .int .i64 9] 3))).below gdrew
            have l0 : w3.cell? ⟨R + 1, 0, none⟩ = some (.slice A xs.length c) := bc0 hT3.t
            have l1 := bc0 hTe.t
            have hK2 : Blk (w3.alloc (.cells #[.int .i64 (-1), .int .i64 (-2), .int .i64 9] 3)).drew w3.heap.size 3 (ints [-1, -2, 9]).toArray := Blk.new w3 _ _
            have hal : Calls Tryd.prog 65 #[.pointer (some ⟨g, 0, none⟩), .slice (some ⟨w3.heap.size, 0, none⟩) 3 3] _ _ := among_any _ B g _ (some ⟨w3.heap.size, 0, none⟩) 3 [-1, -2, 9] hTe.c (by omega) (rd_ints [-1, -2, 9] hK2 (by decide)) (fun b hb => by injection hb with hb; subst hb; have := hT3.lt; have := hT3.gr; show g + 1 ≤ w3.heap.size; omega) (by decide) (by decide)
            have HAL := Lib.hid hal
            clear hK2 hal
            refine wp_region_held_drew (S := fun _ => True) (by kernel_rfl) trivial (fun hHeld => ?_)
            refine wpAnyH_take (i := 0) (oi := _) (v := ?vttz0) rfl (by kernel_rfl) (by kernel_rfl) (by kernel_rfl) (fun _ _ _ h => h) (Or.inl ⟨by rfl, ?hytz0⟩) (by assumption) ?_
            case hytz0 => (intro wh hSw; (try dsimp only at hSw); go_simp; try with_reducible rfl)
            simp only [Act.put]
            refine wpAnyH_take (i := 2) (oi := _) (v := ?vttz2) rfl (by kernel_rfl) (by kernel_rfl) (by kernel_rfl) (fun _ _ _ h => h) (Or.inl ⟨by rfl, ?hytz2⟩) (by assumption) ?_
            case hytz2 => (intro wh hSw; (try dsimp only at hSw); go_simp; try with_reducible rfl)
            simp only [Act.put]
            refine wpAnyH_ready (rs := [1, 3]) (by kernel_rfl) (by simp) ?_
            refine AllReadyH.cons (o := _) rfl (fun K hK => ?_) (AllReadyH.cons (o := _) rfl (fun K hK => ?_) AllReadyH.nil)
            · go_simp
              refine hK.out _ _ trivial (fun hHeld => ?_)
              clear hK K
              try simp only [Act.put]
              refine wpAnyH_ready (rs := [3]) (by kernel_rfl) (by simp) ?_
              refine AllReadyH.cons (o := _) rfl (fun K hK => ?_) AllReadyH.nil
              go_simp
              refine hK.out _ _ trivial (fun hHeld => ?_)
              clear hK K
              try simp only [Act.put]
              clear l0 l1
              refine wpAnyH_ready (rs := [4]) (by kernel_rfl) (by simp) ?_
              refine AllReadyH.cons (o := _) rfl (fun K hK => ?_) AllReadyH.nil
              go_simp
              go_at_call 65
              ((with_reducible refine (HAL.out).mono ?_); rintro e w6 ⟨m, hmm, rfl, hc6, hg6⟩)
              have hT6 := hTe.gb hc6 hg6
              have hT6a := hT6.below (bel1 w6 (.cells #[.int .i64 m] 3))
              have l2 := bc0 hT6.t
              have l3 := bc0 hT6a.t
              clear hTe HAL hg6 hmm hT3
              dsimp only
              refine hK.out _ _ trivial (fun hHeld => ?_)
              clear hK K
              try simp only [Act.put]
              refine wpAnyH_ready (rs := [5]) (by kernel_rfl) (by simp) ?_
              refine AllReadyH.cons (o := _) rfl (fun K hK => ?_) AllReadyH.nil
              go_simp
              refine hK.out _ _ trivial (fun hHeld => ?_)
              clear hK K
              try simp only [Act.put]
              refine wpAnyH_ready (rs := [6]) (by kernel_rfl) (by simp) ?_
              refine AllReadyH.cons (o := _) rfl (fun K hK => ?_) AllReadyH.nil
              rw [if_pos (by rfl)]
              refine wp_append_at _ _ 24 3 (.int .i64 0) 8 rfl Tryd.underlying24 infoInt rfl (by omega) (R + 2) (.slice A xs.length c) (ints xs) rfl (own_ints.1 hT6a.o) (w6.heap.size + 1) (some ⟨w6.heap.size, 0, none⟩) 1 1 [.int .i64 m] rfl rfl (Rd.of_blk (Blk.new _ _ _) (Nat.lt_succ_self _)) (fun u hu => by simp at hu; subst hu; rfl) (by rw [ints_len]; simp; omega) (by have := hT6.lt; simp; omega) ?_
              intro A7 c7 w7 ho7 hb7 hg7 hp7
              rw [ints_len, List.length_singleton] at ho7 ⊢
              rw [← ints_snoc] at ho7
              have hT7 := hT6a.app (n := xs.length + 1) (by simp) (own_ints.2 ho7) hb7 hg7 hT6a.row
              have hB7 := hT6a.t.below hb7 (by have := hT6a.lt; omega)
              have q0 := bc0 hB7
              have q0f := hB7.frozen 0
              have hyl : (xs ++ [m]).length = xs.length + 1 := by simp
              generalize xs ++ [m] = ys at *
              refine hK.out _ _ trivial (fun hHeld => ?_)
              clear hK K
              try simp only [Act.put]
              refine wpAnyH_ready (rs := [7]) (by kernel_rfl) (by simp) ?_
              refine AllReadyH.cons (o := _) rfl (fun K hK => ?_) AllReadyH.nil
              go_simp
              refine hK.out _ _ trivial (fun hHeld => ?_)
              clear hK K
              try simp only [Act.put]
              refine wpAnyH_ready (rs := [8]) (by kernel_rfl) (by simp) ?_
              refine AllReadyH.cons (o := _) rfl (fun K hK => ?_) AllReadyH.nil
              go_simp
              refine hK.out _ _ trivial (fun hHeld => ?_)
              clear hK K
              try simp only [Act.put]
              refine wpAnyH_done (by kernel_rfl) ?_ _
              clear l2 l3 hT6 hT6a ho7 hb7 hg7 hp7 hB7 q0 q0f
              obtain ⟨V7, hV7⟩ : ∃ V, V = w7.setCell ⟨R + 1, 0, none⟩ (.slice A7 (xs.length + 1) c7) := ⟨_, rfl⟩
              rw [← hV7] at hT7 ⊢
              clear hV7
              obtain ⟨st, hst⟩ : ∃ r, r = s ++ ⟨#[76]⟩ := ⟨_, rfl⟩
              have hadd := fun w => run_string_add_sum (P := Tryd.prog) w s ⟨#[76]⟩ (by show s.size + 1 ≤ _; omega)
              rw [← hst] at hadd
              have hzs : st.size ≤ s.size + 1 := by rw [hst, ByteArray.size_append]; exact Nat.le_refl _
              clear hst hyl
              have p1 := bc1 hT7.t
              have pf1 := hT7.t.frozen 1
              have hT8 := hT7.sign st
              clear hT7
              have u0 := bc0 hT8.t
              have u1 := bc1 hT8.t
              have r0 := bc0 hT8.r
              have r1 := bc1 hT8.r
              have rf0 := hT8.r.frozen 0
              have rf1 := hT8.r.frozen 1
              have HF := Lib.hid hT8
              clear hT8
              go_wp2
              obtain ⟨f0, f1, fd⟩ := (HF.out).done HR.out (show _ ≤ 1000 by omega) (show _ ≤ a + 2000 by omega)
              exact bodyPost_ret (v := .agg #[.slice _ _ _, .string _]) (by simp only [results, Tryd.results32]; simp [go_sem, f0, f1]) rfl fd
            · go_simp
              refine hK.out _ _ trivial (fun hHeld => ?_)
              clear hK K
              try simp only [Act.put]
              refine wpAnyH_ready (rs := [1, 4]) (by kernel_rfl) (by simp) ?_
              refine AllReadyH.cons (o := _) rfl (fun K hK => ?_) (AllReadyH.cons (o := _) rfl (fun K hK => ?_) AllReadyH.nil)
              · go_simp
                refine hK.out _ _ trivial (fun hHeld => ?_)
                clear hK K
                try simp only [Act.put]
                clear l0 l1
                refine wpAnyH_ready (rs := [4]) (by kernel_rfl) (by simp) ?_
                refine AllReadyH.cons (o := _) rfl (fun K hK => ?_) AllReadyH.nil
                go_simp
                go_at_call 65
                ((with_reducible refine (HAL.out).mono ?_); rintro e w6 ⟨m, hmm, rfl, hc6, hg6⟩)
                have hT6 := hTe.gb hc6 hg6
                have hT6a := hT6.below (bel1 w6 (.cells #[.int .i64 m] 3))
                have l2 := bc0 hT6.t
                have l3 := bc0 hT6a.t
                clear hTe HAL hg6 hmm hT3
                dsimp only
                refine hK.out _ _ trivial (fun hHeld => ?_)
                clear hK K
                try simp only [Act.put]
                refine wpAnyH_ready (rs := [5]) (by kernel_rfl) (by simp) ?_
                refine AllReadyH.cons (o := _) rfl (fun K hK => ?_) AllReadyH.nil
                go_simp
                refine hK.out _ _ trivial (fun hHeld => ?_)
                clear hK K
                try simp only [Act.put]
                refine wpAnyH_ready (rs := [6]) (by kernel_rfl) (by simp) ?_
                refine AllReadyH.cons (o := _) rfl (fun K hK => ?_) AllReadyH.nil
                rw [if_pos (by rfl)]
                refine wp_append_at _ _ 24 3 (.int .i64 0) 8 rfl Tryd.underlying24 infoInt rfl (by omega) (R + 2) (.slice A xs.length c) (ints xs) rfl (own_ints.1 hT6a.o) (w6.heap.size + 1) (some ⟨w6.heap.size, 0, none⟩) 1 1 [.int .i64 m] rfl rfl (Rd.of_blk (Blk.new _ _ _) (Nat.lt_succ_self _)) (fun u hu => by simp at hu; subst hu; rfl) (by rw [ints_len]; simp; omega) (by have := hT6.lt; simp; omega) ?_
                intro A7 c7 w7 ho7 hb7 hg7 hp7
                rw [ints_len, List.length_singleton] at ho7 ⊢
                rw [← ints_snoc] at ho7
                have hT7 := hT6a.app (n := xs.length + 1) (by simp) (own_ints.2 ho7) hb7 hg7 hT6a.row
                have hB7 := hT6a.t.below hb7 (by have := hT6a.lt; omega)
                have q0 := bc0 hB7
                have q0f := hB7.frozen 0
                have hyl : (xs ++ [m]).length = xs.length + 1 := by simp
                generalize xs ++ [m] = ys at *
                refine hK.out _ _ trivial (fun hHeld => ?_)
                clear hK K
                try simp only [Act.put]
                refine wpAnyH_ready (rs := [7]) (by kernel_rfl) (by simp) ?_
                refine AllReadyH.cons (o := _) rfl (fun K hK => ?_) AllReadyH.nil
                go_simp
                refine hK.out _ _ trivial (fun hHeld => ?_)
                clear hK K
                try simp only [Act.put]
                refine wpAnyH_ready (rs := [8]) (by kernel_rfl) (by simp) ?_
                refine AllReadyH.cons (o := _) rfl (fun K hK => ?_) AllReadyH.nil
                go_simp
                refine hK.out _ _ trivial (fun hHeld => ?_)
                clear hK K
                try simp only [Act.put]
                refine wpAnyH_done (by kernel_rfl) ?_ _
                clear l2 l3 hT6 hT6a ho7 hb7 hg7 hp7 hB7 q0 q0f
                obtain ⟨V7, hV7⟩ : ∃ V, V = w7.setCell ⟨R + 1, 0, none⟩ (.slice A7 (xs.length + 1) c7) := ⟨_, rfl⟩
                rw [← hV7] at hT7 ⊢
                clear hV7
                obtain ⟨st, hst⟩ : ∃ r, r = s ++ ⟨#[76]⟩ := ⟨_, rfl⟩
                have hadd := fun w => run_string_add_sum (P := Tryd.prog) w s ⟨#[76]⟩ (by show s.size + 1 ≤ _; omega)
                rw [← hst] at hadd
                have hzs : st.size ≤ s.size + 1 := by rw [hst, ByteArray.size_append]; exact Nat.le_refl _
                clear hst hyl
                have p1 := bc1 hT7.t
                have pf1 := hT7.t.frozen 1
                have hT8 := hT7.sign st
                clear hT7
                have u0 := bc0 hT8.t
                have u1 := bc1 hT8.t
                have r0 := bc0 hT8.r
                have r1 := bc1 hT8.r
                have rf0 := hT8.r.frozen 0
                have rf1 := hT8.r.frozen 1
                have HF := Lib.hid hT8
                clear hT8
                go_wp2
                obtain ⟨f0, f1, fd⟩ := (HF.out).done HR.out (show _ ≤ 1000 by omega) (show _ ≤ a + 2000 by omega)
                exact bodyPost_ret (v := .agg #[.slice _ _ _, .string _]) (by simp only [results, Tryd.results32]; simp [go_sem, f0, f1]) rfl fd
              · go_simp
                clear l0 l1
                go_at_call 65
                ((with_reducible refine (HAL.out).mono ?_); rintro e w6 ⟨m, hmm, rfl, hc6, hg6⟩)
                have hT6 := hTe.gb hc6 hg6
                have hT6a := hT6.below (bel1 w6 (.cells #[.int .i64 m] 3))
                have l2 := bc0 hT6.t
                have l3 := bc0 hT6a.t
                clear hTe HAL hg6 hmm hT3
                dsimp only
                refine hK.out _ _ trivial (fun hHeld => ?_)
                clear hK K
                try simp only [Act.put]
                refine wpAnyH_ready (rs := [1, 5]) (by kernel_rfl) (by simp) ?_
                refine AllReadyH.cons (o := _) rfl (fun K hK => ?_) (AllReadyH.cons (o := _) rfl (fun K hK => ?_) AllReadyH.nil)
                · go_simp
                  refine hK.out _ _ trivial (fun hHeld => ?_)
                  clear hK K
                  try simp only [Act.put]
                  refine wpAnyH_ready (rs := [5]) (by kernel_rfl) (by simp) ?_
                  refine AllReadyH.cons (o := _) rfl (fun K hK => ?_) AllReadyH.nil
                  go_simp
                  refine hK.out _ _ trivial (fun hHeld => ?_)
                  clear hK K
                  try simp only [Act.put]
                  refine wpAnyH_ready (rs := [6]) (by kernel_rfl) (by simp) ?_
                  refine AllReadyH.cons (o := _) rfl (fun K hK => ?_) AllReadyH.nil
                  rw [if_pos (by rfl)]
                  refine wp_append_at _ _ 24 3 (.int .i64 0) 8 rfl Tryd.underlying24 infoInt rfl (by omega) (R + 2) (.slice A xs.length c) (ints xs) rfl (own_ints.1 hT6a.o) (w6.heap.size + 1) (some ⟨w6.heap.size, 0, none⟩) 1 1 [.int .i64 m] rfl rfl (Rd.of_blk (Blk.new _ _ _) (Nat.lt_succ_self _)) (fun u hu => by simp at hu; subst hu; rfl) (by rw [ints_len]; simp; omega) (by have := hT6.lt; simp; omega) ?_
                  intro A7 c7 w7 ho7 hb7 hg7 hp7
                  rw [ints_len, List.length_singleton] at ho7 ⊢
                  rw [← ints_snoc] at ho7
                  have hT7 := hT6a.app (n := xs.length + 1) (by simp) (own_ints.2 ho7) hb7 hg7 hT6a.row
                  have hB7 := hT6a.t.below hb7 (by have := hT6a.lt; omega)
                  have q0 := bc0 hB7
                  have q0f := hB7.frozen 0
                  have hyl : (xs ++ [m]).length = xs.length + 1 := by simp
                  generalize xs ++ [m] = ys at *
                  refine hK.out _ _ trivial (fun hHeld => ?_)
                  clear hK K
                  try simp only [Act.put]
                  refine wpAnyH_ready (rs := [7]) (by kernel_rfl) (by simp) ?_
                  refine AllReadyH.cons (o := _) rfl (fun K hK => ?_) AllReadyH.nil
                  go_simp
                  refine hK.out _ _ trivial (fun hHeld => ?_)
                  clear hK K
                  try simp only [Act.put]
                  refine wpAnyH_ready (rs := [8]) (by kernel_rfl) (by simp) ?_
                  refine AllReadyH.cons (o := _) rfl (fun K hK => ?_) AllReadyH.nil
                  go_simp
                  refine hK.out _ _ trivial (fun hHeld => ?_)
                  clear hK K
                  try simp only [Act.put]
                  refine wpAnyH_done (by kernel_rfl) ?_ _
                  clear l2 l3 hT6 hT6a ho7 hb7 hg7 hp7 hB7 q0 q0f
                  obtain ⟨V7, hV7⟩ : ∃ V, V = w7.setCell ⟨R + 1, 0, none⟩ (.slice A7 (xs.length + 1) c7) := ⟨_, rfl⟩
                  rw [← hV7] at hT7 ⊢
                  clear hV7
                  obtain ⟨st, hst⟩ : ∃ r, r = s ++ ⟨#[76]⟩ := ⟨_, rfl⟩
                  have hadd := fun w => run_string_add_sum (P := Tryd.prog) w s ⟨#[76]⟩ (by show s.size + 1 ≤ _; omega)
                  rw [← hst] at hadd
                  have hzs : st.size ≤ s.size + 1 := by rw [hst, ByteArray.size_append]; exact Nat.le_refl _
                  clear hst hyl
                  have p1 := bc1 hT7.t
                  have pf1 := hT7.t.frozen 1
                  have hT8 := hT7.sign st
                  clear hT7
                  have u0 := bc0 hT8.t
                  have u1 := bc1 hT8.t
                  have r0 := bc0 hT8.r
                  have r1 := bc1 hT8.r
                  have rf0 := hT8.r.frozen 0
                  have rf1 := hT8.r.frozen 1
                  have HF := Lib.hid hT8
                  clear hT8
                  go_wp2
                  obtain ⟨f0, f1, fd⟩ := (HF.out).done HR.out (show _ ≤ 1000 by omega) (show _ ≤ a + 2000 by omega)
                  exact bodyPost_ret (v := .agg #[.slice _ _ _, .string _]) (by simp only [results, Tryd.results32]; simp [go_sem, f0, f1]) rfl fd
                · go_simp
                  refine hK.out _ _ trivial (fun hHeld => ?_)
                  clear hK K
                  try simp only [Act.put]
                  refine wpAnyH_ready (rs := [1]) (by kernel_rfl) (by simp) ?_
                  refine AllReadyH.cons (o := _) rfl (fun K hK => ?_) AllReadyH.nil
                  go_simp
                  refine hK.out _ _ trivial (fun hHeld => ?_)
                  clear hK K
                  try simp only [Act.put]
                  refine wpAnyH_ready (rs := [6]) (by kernel_rfl) (by simp) ?_
                  refine AllReadyH.cons (o := _) rfl (fun K hK => ?_) AllReadyH.nil
                  rw [if_pos (by rfl)]
                  refine wp_append_at _ _ 24 3 (.int .i64 0) 8 rfl Tryd.underlying24 infoInt rfl (by omega) (R + 2) (.slice A xs.length c) (ints xs) rfl (own_ints.1 hT6a.o) (w6.heap.size + 1) (some ⟨w6.heap.size, 0, none⟩) 1 1 [.int .i64 m] rfl rfl (Rd.of_blk (Blk.new _ _ _) (Nat.lt_succ_self _)) (fun u hu => by simp at hu; subst hu; rfl) (by rw [ints_len]; simp; omega) (by have := hT6.lt; simp; omega) ?_
                  intro A7 c7 w7 ho7 hb7 hg7 hp7
                  rw [ints_len, List.length_singleton] at ho7 ⊢
                  rw [← ints_snoc] at ho7
                  have hT7 := hT6a.app (n := xs.length + 1) (by simp) (own_ints.2 ho7) hb7 hg7 hT6a.row
                  have hB7 := hT6a.t.below hb7 (by have := hT6a.lt; omega)
                  have q0 := bc0 hB7
                  have q0f := hB7.frozen 0
                  have hyl : (xs ++ [m]).length = xs.length + 1 := by simp
                  generalize xs ++ [m] = ys at *
                  refine hK.out _ _ trivial (fun hHeld => ?_)
                  clear hK K
                  try simp only [Act.put]
                  refine wpAnyH_ready (rs := [7]) (by kernel_rfl) (by simp) ?_
                  refine AllReadyH.cons (o := _) rfl (fun K hK => ?_) AllReadyH.nil
                  go_simp
                  refine hK.out _ _ trivial (fun hHeld => ?_)
                  clear hK K
                  try simp only [Act.put]
                  refine wpAnyH_ready (rs := [8]) (by kernel_rfl) (by simp) ?_
                  refine AllReadyH.cons (o := _) rfl (fun K hK => ?_) AllReadyH.nil
                  go_simp
                  refine hK.out _ _ trivial (fun hHeld => ?_)
                  clear hK K
                  try simp only [Act.put]
                  refine wpAnyH_done (by kernel_rfl) ?_ _
                  clear l2 l3 hT6 hT6a ho7 hb7 hg7 hp7 hB7 q0 q0f
                  obtain ⟨V7, hV7⟩ : ∃ V, V = w7.setCell ⟨R + 1, 0, none⟩ (.slice A7 (xs.length + 1) c7) := ⟨_, rfl⟩
                  rw [← hV7] at hT7 ⊢
                  clear hV7
                  obtain ⟨st, hst⟩ : ∃ r, r = s ++ ⟨#[76]⟩ := ⟨_, rfl⟩
                  have hadd := fun w => run_string_add_sum (P := Tryd.prog) w s ⟨#[76]⟩ (by show s.size + 1 ≤ _; omega)
                  rw [← hst] at hadd
                  have hzs : st.size ≤ s.size + 1 := by rw [hst, ByteArray.size_append]; exact Nat.le_refl _
                  clear hst hyl
                  have p1 := bc1 hT7.t
                  have pf1 := hT7.t.frozen 1
                  have hT8 := hT7.sign st
                  clear hT7
                  have u0 := bc0 hT8.t
                  have u1 := bc1 hT8.t
                  have r0 := bc0 hT8.r
                  have r1 := bc1 hT8.r
                  have rf0 := hT8.r.frozen 0
                  have rf1 := hT8.r.frozen 1
                  have HF := Lib.hid hT8
                  clear hT8
                  go_wp2
                  obtain ⟨f0, f1, fd⟩ := (HF.out).done HR.out (show _ ≤ 1000 by omega) (show _ ≤ a + 2000 by omega)
                  exact bodyPost_ret (v := .agg #[.slice _ _ _, .string _]) (by simp only [results, Tryd.results32]; simp [go_sem, f0, f1]) rfl fd
          · have e2 : x = 2 := by omega
            subst e2
            have hs2 : s.size ≤ 100 + xs.length := by omega
            have H3 := Lib.hid (hT3.more (show _ ≤ a + 700 + 2 * xs.length by omega))
            clear hT3 hsz hk9
            go_wp2_with fail
            go_loopw [] (fun wr => ∃ (A : Option Addr) (c : Nat) (xs : List Int) (s : ByteArray), xs.length ≤ 100 ∧ s.size ≤ 100 + xs.length ∧ TC w B g wr R (a + 700 + 2 * xs.length) A c xs s) (fun wr => 200 - upLen wr (R + 1))
            case atStart => exact ⟨A, c, xs, s, hxn, hs2, H3.out⟩
            case round =>
              clear H3 hxn hs2
              obtain ⟨A, c, xs, s, hxn, hs2, hT⟩ := hrel
              have hup0 := hT.upLen
              have c0 : wr.cell? ⟨R + 1, 0, none⟩ = some (.slice A xs.length c) := bc0 hT.t
              have hTd := hT.below gdrew
              have HUP := Lib.hid hup0
              clear hup0
              go_wp2_with fail
              go_region_held3 (fun w' => w'.cell? ⟨R + 1, 0, none⟩ = some (.slice A xs.length c)) (go_keep) ((go_at_call 63; refine (pickI _ _ _ _ _ hTd.c (by omega) (by decide) (by decide)).mono ?_; rintro e w4 ⟨y, ⟨hy0, hy1⟩, rfl, hc4, hg4⟩; have hT4 := hTd.gb hc4 hg4; have d0 := bc0 hT4.t; have hw8 : IntKind.i64.wrap (8 + y) = 8 + y := (by rw [IntKind.wrap_i64]; omega)))
              clear hT hTd c0 hc4 hg4
              by_cases hlt : (xs.length : Int) < 8 + y
              · have hx9 : xs.length ≤ 9 := by omega
                have hx3 : xs.length ≤ 900000000 := by omega
                have hb3 := hT4.t.below (bel1 w4 (.cells #[.int .i64 (-1)] 3)) hT4.t.lt
                have HO3 := Lib.hid (hT4.o.below (bel1 w4 (.cells #[.int .i64 (-1)] 3)))
                have hT4a := hT4.below (bel1 w4 (.cells #[.int .i64 (-1)] 3))
                have hz3 := hT4.lt
                obtain ⟨st, hst⟩ : ∃ r, r = s ++ ⟨#[82]⟩ := ⟨_, rfl⟩
                have hadd := fun w => run_string_add_sum (P := Tryd.prog) w s ⟨#[82]⟩ (by show s.size + 1 ≤ _; omega)
                rw [← hst] at hadd
                have hzs : st.size ≤ s.size + 1 := by rw [hst, ByteArray.size_append]; exact Nat.le_refl _
                clear hst
                go_wp2_with (at_builtin; refine append_int_at rfl _ _ rfl (R + 2) _ xs rfl HO3.out w4.heap.size (-1) rfl (Blk.new _ _ _) hx3 (by simp; omega) ?_; intro A5 c5 w5 ho5 hb5 hg5 hp5; have hB5 := hb3.below hb5 (by omega); have q0 := bc0 hB5; have q1 := bc1 hB5; have q0f := hB5.frozen 0; have q1f := hB5.frozen 1)
                have hT5 := hT4a.app (n := xs.length + 1) (by simp) ho5 hb5 hg5 hT4.row
                have hT6 := hT5.sign st
                have hyl : (xs ++ [-1]).length = xs.length + 1 := by simp
                have HY := Lib.hid hyl
                have hup := hT6.upLen
                rw [hyl] at hup
                generalize xs ++ [-1] = ys at *
                go_roundw
                case rel => exact ⟨A5, c5, ys, st, by rw [HY.out]; omega, by rw [HY.out]; omega, hT6.more (by rw [HY.out]; omega)⟩
                case measure =>
                  show 200 - upLen _ (R + 1) < 200 - upLen wr (R + 1)
                  rw [hup, HUP.out]; omega
              · skip
                have u0 := bc0 hT4.t
                have u1 := bc1 hT4.t
                have r0 := bc0 hT4.r
                have r1 := bc1 hT4.r
                have rf0 := hT4.r.frozen 0
                have rf1 := hT4.r.frozen 1
                have HF := Lib.hid hT4
                clear hT4
                go_wp2
                obtain ⟨f0, f1, fd⟩ := (HF.out).done HR.out (show _ ≤ 1000 by omega) (show _ ≤ a + 2000 by omega)
                exact bodyPost_ret (v := .agg #[.slice _ _ _, .string _]) (by simp only [results, Tryd.results32]; simp [go_sem, f0, f1]) rfl fd
end Go.Proofs.YtbhficohgdlojaaDoor
