/- BoxHeaps of the program and of the reference by contracts. Conditions: none. -/
import Derived.Test.YtbledcogbkeneaaMark
import Derived.Test.YtbledcogbkeneaaGoodBox
import Derived.Test.YtbledcogbkeneaaVals2
namespace Go.Proofs.Ytbledcogbkeneaa
open Go.RowKit
set_option linter.unusedVariables false

/-- All lists of m numbers from fr to size that do not fall. -/
def bx (size : Nat) : Nat → Nat → List (List Int)
  | 0, _ => [[]]
  | m + 1, fr => (List.range' fr (size + 1 - fr)).flatMap fun n => (bx size m n).map fun xs => (n : Int) :: xs
/-- .. that begin with less than k. -/
def bxTo (size m fr k : Nat) : List (List Int) := (List.range' fr (k - fr)).flatMap fun n => (bx size m n).map fun xs => (n : Int) :: xs
theorem bxTo_zero (size m fr : Nat) : bxTo size m fr fr = [] := by simp [bxTo]
theorem bxTo_succ (size m fr k : Nat) (h : fr ≤ k) : bxTo size m fr (k + 1) = bxTo size m fr k ++ (bx size m k).map fun xs => (k : Int) :: xs := by
  unfold bxTo
  rw [show k + 1 - fr = (k - fr) + 1 by omega, List.range'_1_concat, List.flatMap_append, show fr + (k - fr) = k by omega]
  simp
theorem bx_end (size m fr k : Nat) (h : size < k) (h2 : k = size + 1 ∨ k = fr) : bxTo size m fr k = bx size (m + 1) fr := by
  rw [bxTo, bx]
  rcases h2 with rfl | rfl
  · rfl
  · rw [show k - k = 0 by omega, show size + 1 - k = 0 by omega]
theorem flat_leB {α β : Type} (f : α → List β) (K : Nat) : ∀ l : List α, (∀ x ∈ l, (f x).length ≤ K) → (l.flatMap f).length ≤ l.length * K := by
  intro l
  induction l with
  | nil => intro _; simp
  | cons a l ih =>
    intro h
    rw [List.flatMap_cons, List.length_append, List.length_cons, Nat.succ_mul]
    have h1 := h a (by simp)
    have h2 := ih fun x hx => h x (by simp [hx])
    omega
theorem bx_le (size : Nat) (hs : size ≤ 6) : ∀ m fr, (bx size m fr).length ≤ 7 ^ m := by
  intro m
  induction m with
  | zero => intro fr; simp [bx]
  | succ m ih =>
    intro fr
    unfold bx
    refine Nat.le_trans (flat_leB _ (7 ^ m) _ fun n _ => by rw [List.length_map]; exact ih n) ?_
    rw [List.length_range', Nat.pow_succ, Nat.mul_comm]
    exact Nat.mul_le_mul_left _ (by omega)
theorem bxTo_le (size : Nat) (hs : size ≤ 6) (m fr k : Nat) (hk : k ≤ 7) : (bxTo size m fr k).length ≤ 7 ^ (m + 1) := by
  unfold bxTo
  refine Nat.le_trans (flat_leB _ (7 ^ m) _ fun n _ => by rw [List.length_map]; exact bx_le size hs m n) ?_
  rw [List.length_range', Nat.pow_succ, Nat.mul_comm]
  exact Nat.mul_le_mul_left _ (by omega)
theorem pow7 (m : Nat) (h : m ≤ 6) : 7 ^ m ≤ 117649 := Nat.pow_le_pow_right (by omega) h
theorem bx_row (size : Nat) : ∀ m fr x, x ∈ bx size m fr → x.length = m := by
  intro m
  induction m with
  | zero => intro fr x hx; simp [bx] at hx; simp [hx]
  | succ m ih =>
    intro fr x hx
    unfold bx at hx
    rw [List.mem_flatMap] at hx
    obtain ⟨n, _, hx⟩ := hx
    rw [List.mem_map] at hx
    obtain ⟨y, hy, rfl⟩ := hx
    rw [List.length_cons, ih n y hy]

theorem bx_snoc (P L : List (List Int)) (k : Int) (j : Nat) (h : j < L.length) :
    ((P ++ (L.take (j + 1)).map fun xs => k :: xs).map ints) = ((P ++ (L.take j).map fun xs => k :: xs).map ints) ++ [[Value.int .i64 k] ++ ints (gl L j)] := by
  rw [List.take_add_one, List.getElem?_eq_getElem h, gl_lt h, Option.toList_some, List.map_append (f := fun xs => k :: xs), ← List.append_assoc, List.map_append (f := ints) (l₁ := P ++ _)]
  rfl

set_option maxRecDepth 100000 in
set_option maxHeartbeats 1600000 in
theorem lists_any (size : Nat) (q : Int) (hs : size ≤ 6) : ∀ (m fr : Nat) (w : World), m ≤ 6 → fr ≤ 7 →
    Calls Try.prog 68 #[.agg #[.int .i64 size, .int .i64 q], .int .i64 m, .int .i64 fr] w fun e w' =>
      ∃ A c, e = .returned (.slice A (bx size m fr).length c) ∧ FrR w' w.heap.size 22 3 (.slice A (bx size m fr).length c) ((bx size m fr).map ints) ∧ Below w.heap.size w w' := by
  intro m
  induction m with
  | zero =>
    intro fr w hm hfr
    have e1 : bx size 0 fr = [[]] := by rw [bx]
    rw [e1]
    clear e1
    go_enter Try.func68, Try.ntmps68
    go_wp2
    go_ret
    refine ⟨_, _, rfl, ?_, ?_⟩
    · refine FrR.single (r := .slice (some ⟨w.heap.size + 1, 0, none⟩) 0 0) (xs := []) ?_ ?_ ?_
      · have := Own.lit1 ((w.alloc (.cells #[.int .i64 size, .int .i64 q] 28)).alloc (.cells #[] 3)) w.heap.size 22 (.slice (some ⟨w.heap.size + 1, 0, none⟩) 0 0) (by simp; omega)
        simpa using this
      · have := (Own.empty (w.alloc (.cells #[.int .i64 size, .int .i64 q] 28)) 3 3 w.heap.size (by simp)).below ((Below.refl _ _).alloc (Nat.le_refl _) (.cells #[.slice (some ⟨w.heap.size + 1, 0, none⟩) 0 0] 22))
        simpa using this
      · intro g hg hh
        simp [Value.ownBlock] at hg hh
        omega
    · (repeat (first | exact Below.refl _ _ | refine Below.setCell ?_ (by simp) _ | refine Below.alloc ?_ (by first | exact Nat.le_refl _ | (simp; done) | (simp; omega)) _ | refine bdrew ?_ _))
  | succ m ih =>
    intro fr w hm hfr
    have HI := Lib.hid ih; clear ih
    have ec : ((m + 1 : Nat) : Int) = (m : Int) + 1 := by omega
    rw [ec]
    clear ec
    have hm0 : ((m : Int) + 1 == 0) = false := by simp; omega
    have HP7 : Hid (7 ^ (m + 1) ≤ 117649) := pow7 (m + 1) hm
    have HP6 : Hid (7 ^ m ≤ 117649) := pow7 m (by omega)
    go_enter Try.func68, Try.ntmps68
    go_wp2
    have hsz : (w.alloc (.cells #[.int .i64 size, .int .i64 q] 28)).heap.size = w.heap.size + 1 := by simp
    have hzW : w.heap.size < (w.alloc (.cells #[.int .i64 size, .int .i64 q] 28)).heap.size := by simp
    have hAW : Below w.heap.size w (w.alloc (.cells #[.int .i64 size, .int .i64 q] 28)) := (Below.refl _ _).alloc (Nat.le_refl _) _
    have c0W : (w.alloc (.cells #[.int .i64 size, .int .i64 q] 28)).cell? ⟨w.heap.size, 0, none⟩ = some (.int .i64 size) := by simp [go_sem]
    have c1W : (w.alloc (.cells #[.int .i64 size, .int .i64 q] 28)).cell? ⟨w.heap.size, 1, none⟩ = some (.int .i64 q) := by simp [go_sem]
    generalize w.alloc (.cells #[.int .i64 size, .int .i64 q] 28) = W at *
    rw [← hsz]
    clear hsz
    go_loopw [7, 8] (fun v i wr => ∃ (k : Nat) (A' : Option Addr) (c' : Nat), i = .int .i64 k ∧ fr ≤ k ∧ k ≤ 7 ∧ (k ≤ size + 1 ∨ k = fr) ∧ v = .slice A' (bxTo size m fr k).length c' ∧ FrR wr W.heap.size 22 3 (.slice A' (bxTo size m fr k).length c') ((bxTo size m fr k).map ints) ∧ Below W.heap.size W wr) (fun _ i _ => 8 - (intOf i).toNat)
    case atStart =>
      refine ⟨fr, some ⟨W.heap.size, 0, none⟩, 0, rfl, by omega, hfr, .inr rfl, by rw [bxTo_zero]; rfl, ?_, (Below.refl _ _).alloc (Nat.le_refl _) _⟩
      rw [bxTo_zero]
      exact FrR.nil (Own.empty W 22 22 _ (Nat.le_refl _))
    case round =>
      obtain ⟨k, A', c', rfl, hk1, hk2, hk3, rfl, hf, hb⟩ := hrel
      have q0 := (hb.cell (p := ⟨w.heap.size, 0, none⟩) hzW).trans c0W
      have q1 := (hb.cell (p := ⟨w.heap.size, 1, none⟩) hzW).trans c1W
      have hzr := hb.size
      by_cases hk : k ≤ size
      · have HL : Hid ((bx size m k).length ≤ 117649) := Nat.le_trans (bx_le size hs m k) HP6.out
        have HPl : Hid ((bxTo size m fr k).length ≤ 117649) := Nat.le_trans (bxTo_le size hs m fr k hk2) HP7.out
        have HRow : Hid (∀ x, x ∈ bx size m k → x.length = m) := fun x hx => bx_row size m k x hx
        have HNext : Hid (bxTo size m fr (k + 1) = bxTo size m fr k ++ (bx size m k).map fun xs => (k : Int) :: xs) := bxTo_succ size m fr k hk1
        go_wp2_with fail
        refine (HI.out k wr (by omega) (by omega)).mono ?_; rintro e w1 ⟨A1, c1, rfl, hf1, hb1⟩
        have hr1 := hf1.rd
        have hblk : ∀ g, (Value.slice A' (bxTo size m fr k).length c').ownBlock = some g → g < wr.heap.size ∨ w1.heap.size ≤ g := fun g hg => .inl (hf.blk g hg).2
        have hf2 := hf.below hb1
        have hb2 := hb.trans (hb1.mono hzr)
        clear hf hf1 hb q0 q1
        have hzr1 := hb1.size
        clear hb1
        generalize bx size m k = L at *
        generalize bxTo size m fr k = P at *
        go_wp2
        obtain ⟨B1, hB1⟩ : ∃ B1, B1 = w1.heap.size := ⟨_, rfl⟩
        obtain ⟨lo1, hlo1⟩ : ∃ lo1, lo1 = wr.heap.size := ⟨_, rfl⟩
        rw [← hB1] at hr1 hblk
        rw [← hlo1] at hr1 hblk
        go_loopw [7, 29] (fun v i wi => ∃ (j : Nat) (A' : Option Addr) (c' : Nat), i = .int .i64 j ∧ j ≤ L.length ∧ v = .slice A' (P.length + j) c' ∧ FrR wi W.heap.size 22 3 (.slice A' (P.length + j) c') ((P ++ (L.take j).map fun xs => (k : Int) :: xs).map ints) ∧ RdR wi lo1 B1 A1 c1 L ∧ (∀ g, (Value.slice A' (P.length + j) c').ownBlock = some g → g < lo1 ∨ B1 ≤ g) ∧ Below W.heap.size W wi ∧ B1 ≤ wi.heap.size) (fun _ i _ => L.length - (intOf i).toNat)
        case atStart => exact ⟨0, A', c', rfl, by omega, rfl, by simpa using hf2, hr1, hblk, hb2, by omega⟩
        case round =>
          clear hf2 hr1 hblk hb2
          obtain ⟨j, A2, c2, rfl, hj, rfl, hf, hr, hblk, hb, hzi⟩ := hrel
          by_cases hlt : j < L.length
          · obtain ⟨b, o, rfl, hbB, hc⟩ := hr.at (j := j) hlt
            obtain ⟨Aj, cj, hcj, hrj⟩ := hc j hlt
            clear hc
            have hxl : (gl L j).length = m := by rw [gl_lt hlt]; exact HRow.out _ (List.getElem_mem hlt)
            have e3 := bx_snoc P L k j hlt
            have HE3 := Lib.hid e3; clear e3
            have HXL := Lib.hid hxl; clear hxl
            have hblt := hf.blk
            have hHB := Lib.hid hblt; clear hblt
            have hBK := Lib.hid hblk; clear hblk
            obtain ⟨cs, hF⟩ := hf
            have hcl : cs.length = P.length + j := by rw [hF.2.1.1, List.length_map, List.length_append, List.length_map, List.length_take]; omega
            have E6 : Hid (∀ u : Value, cs.length + [u].length = P.length + (j + 1)) := fun u => by rw [hcl, List.length_singleton]; omega
            have HCL := Lib.hid hcl; clear hcl
            have HF := Lib.hid hF; clear hF
            have hzw := hb.size
            have hRL := Lib.hid hr; clear hr
            have hLl := HL.out
            go_wp2_with (first
              | (at_builtin; refine wpList_append_at rfl _ _ 22 3 (.int .i64 0) 8 rfl Try.underlying22 infoInt rfl (by omega) wr.heap.size (.slice (some ⟨wr.heap.size, 0, none⟩) 1 1) [.int .i64 k] rfl (Own.lit1 _ _ _ _ (Nat.le_refl _)) B1 _ _ _ (ints (gl L j)) rfl (by rw [ints_len]) (Rd.below hrj ((Below.refl _ _).alloc (Nat.le_refl _) _) hzi) (fun u hu => by simp [ints] at hu; obtain ⟨y, -, rfl⟩ := hu; rfl) (by rw [ints_len, HXL.out]; simp; omega) (by simp) ?_; intro A5 c5 w5 ho5 hb5 hg5 hp5; clear hg5 hp5; have hb6 := ((Below.refl _ _).alloc (Nat.le_refl _) _).trans hb5; have hz5 := hb6.size)
              | (at_builtin; refine wpList_append_at rfl _ _ 63 22 (.slice none 0 0) 24 rfl Try.underlying63 infoRow rfl (by omega) W.heap.size (.slice A2 (P.length + j) c2) cs rfl (HF.out.1.below (hb6.alloc hz5 _)) (w5.heap.size + 1) (some ⟨w5.heap.size, 0, none⟩) 1 1 [.slice A5 _ c5] rfl rfl (Rd.of_blk (Blk.new _ _ _) (Nat.lt_succ_self _)) (fun u hu => by simp at hu; subst hu; rfl) (by have := HPl.out; have := HL.out; rw [HCL.out]; simp; omega) (by simp; omega) ?_; intro A6 c6 w6 ho6 hb7 hg6 hp6; rw [E6.out] at ho6 hp6 ⊢))
            have hz6 := hb7.size
            have hzA : (w5.alloc (.cells #[.slice A5 (1 + (ints (gl L j)).length) c5] 22)).heap.size = w5.heap.size + 1 := by simp
            go_roundw
            case rel =>
              refine ⟨j + 1, A6, c6, by go_num, by omega, rfl, ?_, ?_, ?_, ?_, by omega⟩
              · rw [HE3.out]
                exact FrR.push HF.out hzw hb6 ho5 ((Below.refl _ _).alloc (Nat.le_refl _) _) ho6 hg6 hp6
              · exact ((hRL.out.below hb6 hzi).below (B' := w5.heap.size) ((Below.refl _ _).alloc (Nat.le_refl _) _) (by omega)).grown hg6 (by omega) (fun g hg => hBK.out g hg)
              · intro g hg
                rcases hp6 with h' | h'
                · rw [h'] at hg; exact hBK.out g hg
                · rw [h'] at hg
                  injection hg with hg
                  omega
              · exact hb.trans ((hb6.mono hzw).trans (((Below.refl _ _).alloc (by omega) _).trans hb7))
            case measure => simp [intOf]; omega
          · obtain rfl : j = L.length := by omega
            have HF := Lib.hid hf; clear hf
            go_wp2
            go_roundw
            case rel =>
              have e2 : (bxTo size m fr (k + 1)).length = P.length + L.length := by rw [HNext.out, List.length_append, List.length_map]
              refine ⟨k + 1, A2, c2, by go_num, by omega, by omega, by omega, by rw [e2], ?_, hb⟩
              rw [e2, HNext.out]
              have := HF.out
              rw [List.take_length] at this
              exact this
            case measure => simp [intOf]; omega
      · have hkI : ¬ (k : Int) ≤ (size : Int) := by omega
        have HE : Hid (bxTo size m fr k = bx size (m + 1) fr) := bx_end size m fr k (by omega) (by omega)
        rw [HE.out] at hf ⊢
        go_wp2
        go_ret
        exact ⟨A', c', rfl, hf.le hAW.size, hAW.trans (hb.mono (by omega))⟩

set_option maxRecDepth 100000 in
set_option maxHeartbeats 1600000 in
theorem heaps_any (size : Nat) (hs : size ≤ 6) : ∀ (m fr : Nat) (w : World), m ≤ 6 → fr ≤ 7 →
    Calls Try.prog 60 #[.int .i64 m, .int .i64 fr, .int .i64 size] w fun e w' =>
      ∃ A c, e = .returned (.slice A (bx size m fr).length c) ∧ FrR w' w.heap.size 22 3 (.slice A (bx size m fr).length c) ((bx size m fr).map ints) ∧ Below w.heap.size w w' := by
  intro m
  induction m with
  | zero =>
    intro fr w hm hfr
    have e1 : bx size 0 fr = [[]] := by rw [bx]
    rw [e1]
    clear e1
    go_enter Try.func60, Try.ntmps60
    go_wp2
    go_ret
    refine ⟨_, _, rfl, ?_, ?_⟩
    · refine FrR.single (r := .slice (some ⟨w.heap.size, 0, none⟩) 0 0) (xs := []) ?_ ?_ ?_
      · have := Own.lit1 (w.alloc (.cells #[] 3)) w.heap.size 22 (.slice (some ⟨w.heap.size, 0, none⟩) 0 0) (by simp)
        simpa using this
      · have := (Own.empty w 3 3 w.heap.size (Nat.le_refl _)).below ((Below.refl _ _).alloc (Nat.le_refl _) (.cells #[.slice (some ⟨w.heap.size, 0, none⟩) 0 0] 22))
        simpa using this
      · intro g hg hh
        simp [Value.ownBlock] at hg hh
        omega
    · (repeat (first | exact Below.refl _ _ | refine Below.setCell ?_ (by simp) _ | refine Below.alloc ?_ (by first | exact Nat.le_refl _ | (simp; done) | (simp; omega)) _ | refine bdrew ?_ _))
  | succ m ih =>
    intro fr w hm hfr
    have HI := Lib.hid ih; clear ih
    have ec : ((m + 1 : Nat) : Int) = (m : Int) + 1 := by omega
    rw [ec]
    clear ec
    have hm0 : ((m : Int) + 1 == 0) = false := by simp; omega
    have HP7 : Hid (7 ^ (m + 1) ≤ 117649) := pow7 (m + 1) hm
    have HP6 : Hid (7 ^ m ≤ 117649) := pow7 m (by omega)
    go_enter Try.func60, Try.ntmps60
    go_wp2
    go_loopw [7, 8] (fun v i wr => ∃ (k : Nat) (A' : Option Addr) (c' : Nat), i = .int .i64 k ∧ fr ≤ k ∧ k ≤ 7 ∧ (k ≤ size + 1 ∨ k = fr) ∧ v = .slice A' (bxTo size m fr k).length c' ∧ FrR wr w.heap.size 22 3 (.slice A' (bxTo size m fr k).length c') ((bxTo size m fr k).map ints) ∧ Below w.heap.size w wr) (fun _ i _ => 8 - (intOf i).toNat)
    case atStart =>
      refine ⟨fr, some ⟨w.heap.size, 0, none⟩, 0, rfl, by omega, hfr, .inr rfl, by rw [bxTo_zero]; rfl, ?_, (Below.refl _ _).alloc (Nat.le_refl _) _⟩
      rw [bxTo_zero]
      exact FrR.nil (Own.empty w 22 22 _ (Nat.le_refl _))
    case round =>
      obtain ⟨k, A', c', rfl, hk1, hk2, hk3, rfl, hf, hb⟩ := hrel
      have hzr := hb.size
      by_cases hk : k ≤ size
      · have HL : Hid ((bx size m k).length ≤ 117649) := Nat.le_trans (bx_le size hs m k) HP6.out
        have HPl : Hid ((bxTo size m fr k).length ≤ 117649) := Nat.le_trans (bxTo_le size hs m fr k hk2) HP7.out
        have HRow : Hid (∀ x, x ∈ bx size m k → x.length = m) := fun x hx => bx_row size m k x hx
        have HNext : Hid (bxTo size m fr (k + 1) = bxTo size m fr k ++ (bx size m k).map fun xs => (k : Int) :: xs) := bxTo_succ size m fr k hk1
        go_wp2_with fail
        refine (HI.out k wr (by omega) (by omega)).mono ?_; rintro e w1 ⟨A1, c1, rfl, hf1, hb1⟩
        have hr1 := hf1.rd
        have hblk : ∀ g, (Value.slice A' (bxTo size m fr k).length c').ownBlock = some g → g < wr.heap.size ∨ w1.heap.size ≤ g := fun g hg => .inl (hf.blk g hg).2
        have hf2 := hf.below hb1
        have hb2 := hb.trans (hb1.mono hzr)
        clear hf hf1 hb
        have hzr1 := hb1.size
        clear hb1
        generalize bx size m k = L at *
        generalize bxTo size m fr k = P at *
        go_wp2
        obtain ⟨B1, hB1⟩ : ∃ B1, B1 = w1.heap.size := ⟨_, rfl⟩
        obtain ⟨lo1, hlo1⟩ : ∃ lo1, lo1 = wr.heap.size := ⟨_, rfl⟩
        rw [← hB1] at hr1 hblk
        rw [← hlo1] at hr1 hblk
        go_loopw [7, 10] (fun v i wi => ∃ (j : Nat) (A' : Option Addr) (c' : Nat), i = .int .i64 j ∧ j ≤ L.length ∧ v = .slice A' (P.length + j) c' ∧ FrR wi w.heap.size 22 3 (.slice A' (P.length + j) c') ((P ++ (L.take j).map fun xs => (k : Int) :: xs).map ints) ∧ RdR wi lo1 B1 A1 c1 L ∧ (∀ g, (Value.slice A' (P.length + j) c').ownBlock = some g → g < lo1 ∨ B1 ≤ g) ∧ Below w.heap.size w wi ∧ B1 ≤ wi.heap.size) (fun _ i _ => L.length - (intOf i).toNat)
        case atStart => exact ⟨0, A', c', rfl, by omega, rfl, by simpa using hf2, hr1, hblk, hb2, by omega⟩
        case round =>
          clear hf2 hr1 hblk hb2
          obtain ⟨j, A2, c2, rfl, hj, rfl, hf, hr, hblk, hb, hzi⟩ := hrel
          by_cases hlt : j < L.length
          · obtain ⟨b, o, rfl, hbB, hc⟩ := hr.at (j := j) hlt
            obtain ⟨Aj, cj, hcj, hrj⟩ := hc j hlt
            clear hc
            have hxl : (gl L j).length = m := by rw [gl_lt hlt]; exact HRow.out _ (List.getElem_mem hlt)
            have e3 := bx_snoc P L k j hlt
            have HE3 := Lib.hid e3; clear e3
            have HXL := Lib.hid hxl; clear hxl
            have hblt := hf.blk
            have hHB := Lib.hid hblt; clear hblt
            have hBK := Lib.hid hblk; clear hblk
            obtain ⟨cs, hF⟩ := hf
            have hcl : cs.length = P.length + j := by rw [hF.2.1.1, List.length_map, List.length_append, List.length_map, List.length_take]; omega
            have E6 : Hid (∀ u : Value, cs.length + [u].length = P.length + (j + 1)) := fun u => by rw [hcl, List.length_singleton]; omega
            have HCL := Lib.hid hcl; clear hcl
            have HF := Lib.hid hF; clear hF
            have hzw := hb.size
            have hRL := Lib.hid hr; clear hr
            have hLl := HL.out
            have hcj2 := (((Below.refl wr.heap.size wr).alloc (Nat.le_refl _) (.cells #[Value.int .i64 k] 3)).cell (p := ⟨b, o + j, none⟩) (by show b < _; omega)).trans hcj
            go_wp2_with (first
              | (at_builtin; refine wpList_append_at rfl _ _ 22 3 (.int .i64 0) 8 rfl Try.underlying22 infoInt rfl (by omega) wr.heap.size (.slice (some ⟨wr.heap.size, 0, none⟩) 1 1) [.int .i64 k] rfl (Own.lit1 _ _ _ _ (Nat.le_refl _)) B1 _ _ _ (ints (gl L j)) rfl (by rw [ints_len]) (Rd.below hrj ((Below.refl _ _).alloc (Nat.le_refl _) _) hzi) (fun u hu => by simp [ints] at hu; obtain ⟨y, -, rfl⟩ := hu; rfl) (by rw [ints_len, HXL.out]; simp; omega) (by simp) ?_; intro A5 c5 w5 ho5 hb5 hg5 hp5; clear hg5 hp5; have hb6 := ((Below.refl _ _).alloc (Nat.le_refl _) _).trans hb5; have hz5 := hb6.size)
              | (at_builtin; refine wpList_append_at rfl _ _ 63 22 (.slice none 0 0) 24 rfl Try.underlying63 infoRow rfl (by omega) w.heap.size (.slice A2 (P.length + j) c2) cs rfl (HF.out.1.below (hb6.alloc hz5 _)) (w5.heap.size + 1) (some ⟨w5.heap.size, 0, none⟩) 1 1 [.slice A5 _ c5] rfl rfl (Rd.of_blk (Blk.new _ _ _) (Nat.lt_succ_self _)) (fun u hu => by simp at hu; subst hu; rfl) (by have := HPl.out; have := HL.out; rw [HCL.out]; simp; omega) (by simp; omega) ?_; intro A6 c6 w6 ho6 hb7 hg6 hp6; rw [E6.out] at ho6 hp6 ⊢))
            have hz6 := hb7.size
            have hzA : (w5.alloc (.cells #[.slice A5 (1 + (ints (gl L j)).length) c5] 22)).heap.size = w5.heap.size + 1 := by simp
            go_roundw
            case rel =>
              refine ⟨j + 1, A6, c6, by go_num, by omega, rfl, ?_, ?_, ?_, ?_, by omega⟩
              · rw [HE3.out]
                exact FrR.push HF.out hzw hb6 ho5 ((Below.refl _ _).alloc (Nat.le_refl _) _) ho6 hg6 hp6
              · exact ((hRL.out.below hb6 hzi).below (B' := w5.heap.size) ((Below.refl _ _).alloc (Nat.le_refl _) _) (by omega)).grown hg6 (by omega) (fun g hg => hBK.out g hg)
              · intro g hg
                rcases hp6 with h' | h'
                · rw [h'] at hg; exact hBK.out g hg
                · rw [h'] at hg
                  injection hg with hg
                  omega
              · exact hb.trans ((hb6.mono hzw).trans (((Below.refl _ _).alloc (by omega) _).trans hb7))
            case measure => simp [intOf]; omega
          · obtain rfl : j = L.length := by omega
            have HF := Lib.hid hf; clear hf
            go_wp2
            go_roundw
            case rel =>
              have e2 : (bxTo size m fr (k + 1)).length = P.length + L.length := by rw [HNext.out, List.length_append, List.length_map]
              refine ⟨k + 1, A2, c2, by go_num, by omega, by omega, by omega, by rw [e2], ?_, hb⟩
              rw [e2, HNext.out]
              have := HF.out
              rw [List.take_length] at this
              exact this
            case measure => simp [intOf]; omega
      · have hkI : ¬ (k : Int) ≤ (size : Int) := by omega
        have HE : Hid (bxTo size m fr k = bx size (m + 1) fr) := bx_end size m fr k (by omega) (by omega)
        rw [HE.out] at hf ⊢
        go_wp2
        go_ret
        exact ⟨A', c', rfl, hf, hb⟩
end Go.Proofs.Ytbledcogbkeneaa
