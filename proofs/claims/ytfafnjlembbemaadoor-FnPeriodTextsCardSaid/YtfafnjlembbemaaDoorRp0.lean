/- ReadPeriod of the program and of the reference, by contracts. Conditions: none. -/
import Derived.Test.YtfafnjlembbemaaDoorRn1
import Derived.Test.YtfafnjlembbemaaDoorRn2
import Derived.Test.YtfafnjlembbemaaDoorSp1
import Derived.Test.YtfafnjlembbemaaDoorCutI
import Derived.Test.YtfafnjlembbemaaDoorGoodPer
namespace Go.Proofs.YtfafnjlembbemaaDoor
open Go.RowKit
set_option linter.unusedVariables false

theorem spl_no {c : UInt8} : ∀ {l : List UInt8}, c ∉ l → spl c l = [l]
  | [], _ => rfl
  | b :: l, h => by
    have h1 : ¬ b = c := fun e => h (by rw [e]; exact List.mem_cons_self)
    have h2 := spl_no (l := l) fun hm => h (List.mem_cons_of_mem _ hm)
    simp only [spl, if_neg h1, h2]
theorem spl_at {c : UInt8} {b : List UInt8} : ∀ {a : List UInt8}, c ∉ a → spl c (a ++ c :: b) = a :: spl c b
  | [], _ => by simp [spl]
  | x :: a, h => by
    have h1 : ¬ x = c := fun e => h (by rw [e]; exact List.mem_cons_self)
    have h2 := spl_at (b := b) (a := a) fun hm => h (List.mem_cons_of_mem _ hm)
    rw [List.cons_append]
    simp only [spl, if_neg h1, h2]
theorem cut_ex (c : UInt8) : ∀ l : List UInt8, c ∉ l ∨ ∃ a b, l = a ++ c :: b ∧ c ∉ a
  | [] => .inl (by simp)
  | x :: l => by
    by_cases h : x = c
    · exact .inr ⟨[], l, by rw [h]; rfl, by simp⟩
    · rcases cut_ex c l with k | ⟨a, b, k1, k2⟩
      · exact .inl fun hm => by
          rcases List.mem_cons.1 hm with e | e
          · exact h e.symm
          · exact k e
      · exact .inr ⟨x :: a, b, by rw [k1]; rfl, fun hm => by
          rcases List.mem_cons.1 hm with e | e
          · exact h e.symm
          · exact k2 e⟩
theorem num_no43 {s : ByteArray} {n : Int} (h : isNum s n) : (43 : UInt8) ∉ s.data.toList := by
  rw [h.2.2]
  have key : ∀ v : Nat, (43 : UInt8) ∉ Lib.decDigits v := fun v hm => by
    obtain ⟨i, hi, e⟩ := List.getElem_of_mem hm
    obtain ⟨d, hd⟩ := Lib.digit_of_decFrom _ _ _ (decFrom_dec v) i 43 (by rw [List.getElem?_eq_getElem hi, e])
    exact absurd (Lib.digitVal_eq hd).1 (by decide)
  by_cases hn : 0 ≤ n
  · obtain ⟨k, rfl⟩ := Int.eq_ofNat_of_zero_le hn
    rw [Lib.itoa_nonneg]; exact key k
  · obtain ⟨k, hk⟩ := Int.eq_ofNat_of_zero_le (show 0 ≤ -n by omega)
    obtain rfl : n = -(k : Int) := by omega
    rw [Lib.itoa_neg k (by omega)]
    intro hm
    rcases List.mem_cons.1 hm with e | e
    · exact absurd e (by decide)
    · exact key k e
theorem rn_plus {b : List UInt8} (h : (43 : UInt8) ∈ b) : rnB (str b) = false := (rn_no fun n k => num_no43 k h).1
/-- s is a period's text: its two numbers. -/
def isPer (s : ByteArray) (p l : Int) : Prop := ∃ a b : List UInt8, s.data.toList = a ++ 43 :: b ∧ (43 : UInt8) ∉ a ∧ rnB (str a) = true ∧ rnB (str b) = true ∧ rnV (str a) = p ∧ rnV (str b) = l ∧ goodPerB p l = true
/-- What a walk hands back: the numbers where the text is a period's, 0 elsewhere. -/
def RpV (s : ByteArray) (p l : Int) (ok : Bool) : Prop := (ok = true ∧ isPer s p l) ∨ (ok = false ∧ p = 0 ∧ l = 0 ∧ ∀ p l, ¬ isPer s p l)
theorem app_inj {a b a' b' : List UInt8} {c : UInt8} (h : a ++ c :: b = a' ++ c :: b') (h1 : c ∉ a) (h2 : c ∉ a') : a = a' ∧ b = b' := by
  induction a generalizing a' with
  | nil =>
    cases a' with
    | nil => simpa using h
    | cons x a' => simp at h; exact absurd (by rw [h.1]; exact List.mem_cons_self) h2
  | cons x a ih =>
    cases a' with
    | nil => simp at h; exact absurd (by rw [h.1]; exact List.mem_cons_self) h1
    | cons y a' =>
      simp only [List.cons_append, List.cons.injEq] at h
      obtain ⟨e1, e2⟩ := ih h.2 (fun hm => h1 (List.mem_cons_of_mem _ hm)) (fun hm => h2 (List.mem_cons_of_mem _ hm))
      exact ⟨by rw [h.1, e1], e2⟩
theorem isPer.unique {s : ByteArray} {p l p' l' : Int} (h : isPer s p l) (k : isPer s p' l') : p = p' ∧ l = l' := by
  obtain ⟨a, b, h1, h2, -, -, h5, h6, -⟩ := h
  obtain ⟨a', b', k1, k2, -, -, k5, k6, -⟩ := k
  obtain ⟨rfl, rfl⟩ := app_inj (h1.symm.trans k1) h2 k2
  exact ⟨h5.symm.trans k5, h6.symm.trans k6⟩
theorem RpV.unique {s : ByteArray} {p l p' l' : Int} {ok ok' : Bool} (h : RpV s p l ok) (k : RpV s p' l' ok') : p = p' ∧ l = l' ∧ ok = ok' := by
  rcases h with ⟨rfl, h⟩ | ⟨rfl, rfl, rfl, h⟩ <;> rcases k with ⟨rfl, k⟩ | ⟨rfl, rfl, rfl, k⟩
  · obtain ⟨e1, e2⟩ := h.unique k; exact ⟨e1, e2, rfl⟩
  · exact absurd h (k _ _)
  · exact absurd k (h _ _)
  · exact ⟨rfl, rfl, rfl⟩
theorem rpV_no {s : ByteArray} (h : (43 : UInt8) ∉ s.data.toList) : RpV s 0 0 false := .inr ⟨rfl, rfl, rfl, fun p l ⟨a, b, k, _⟩ => h (by rw [k]; simp)⟩
theorem rpV_at {s : ByteArray} {a b : List UInt8} (hs : s.data.toList = a ++ 43 :: b) (ha : (43 : UInt8) ∉ a) (h : ¬ (rnB (str a) = true ∧ rnB (str b) = true ∧ goodPerB (rnV (str a)) (rnV (str b)) = true)) : RpV s 0 0 false :=
  .inr ⟨rfl, rfl, rfl, fun p l ⟨a', b', k1, k2, k3, k4, k5, k6, k7⟩ => by
    obtain ⟨rfl, rfl⟩ := app_inj (hs.symm.trans k1) ha k2
    exact h ⟨k3, k4, by rw [k5, k6]; exact k7⟩⟩
theorem rpV_yes {s : ByteArray} {a b : List UInt8} (hs : s.data.toList = a ++ 43 :: b) (ha : (43 : UInt8) ∉ a) (h1 : rnB (str a) = true) (h2 : rnB (str b) = true) (h3 : goodPerB (rnV (str a)) (rnV (str b)) = true) : RpV s (rnV (str a)) (rnV (str b)) true :=
  .inl ⟨rfl, a, b, hs, ha, h1, h2, rfl, rfl, h3⟩

set_option maxRecDepth 100000 in
set_option maxHeartbeats 1600000 in
theorem rpI_core (s A B : ByteArray) (sp okx oky g : Bool) (x y : Int) (w : World) (HCUT : Hid (∀ W, Calls Tryd.prog 29 #[.string s, .string ⟨#[43]⟩] W fun e w' => e = .returned (.tuple #[.string A, .string B, .bool sp]) ∧ Below W.heap.size W w'))
    (HA : Hid (∀ W, Below w.heap.size w W → Calls Tryd.prog 30 #[.string A] W fun e w' => e = .returned (.tuple #[.int .i64 x, .bool okx]) ∧ Below W.heap.size W w'))
    (HB : Hid (∀ W, Below w.heap.size w W → Calls Tryd.prog 30 #[.string B] W fun e w' => e = .returned (.tuple #[.int .i64 y, .bool oky]) ∧ Below W.heap.size W w'))
    (HG : Hid (∀ W, Calls Tryd.prog 31 #[.agg #[.int .i64 x, .int .i64 y]] W fun e w' => e = .returned (.bool g) ∧ Below W.heap.size W w')) :
    Calls Tryd.prog 9 #[.string s] w fun e w' => (e = if (sp && (okx && (oky && g))) = true then .returned (.tuple #[.agg #[.int .i64 x, .int .i64 y], .bool true]) else .returned (.tuple #[.agg #[.int .i64 0, .int .i64 0], .bool false])) ∧ Below w.heap.size w w' := by
  by_cases hall : (sp && (okx && oky)) = true
  · obtain ⟨rfl, rfl, rfl⟩ : sp = true ∧ okx = true ∧ oky = true := by simpa using hall
    clear hall
    cases g
    · have HP0 : Hid ((if (true && (true && (true && false))) = true then Ending.returned (.tuple #[.agg #[.int .i64 x, .int .i64 y], .bool true]) else .returned (.tuple #[.agg #[.int .i64 0, .int .i64 0], .bool false])) = .returned (.tuple #[.agg #[.int .i64 0, .int .i64 0], .bool false])) := Lib.hid (by simp)
      rw [HP0.out]
      clear HP0
      go_enter Tryd.func9, Tryd.ntmps9
      go_wp2_with fail
      have hb0 := bel1 w (.cells #[.int .i64 0, .int .i64 0] 23)
      have R0 := Blk.new w 23 #[.int .i64 0, .int .i64 0]
      ((with_reducible refine (HCUT.out _).mono ?_); rintro e w1 ⟨rfl, hb1⟩)
      have g1 := gtr hb0 hb1
      have R1 := R0.below hb1 R0.lt
      clear R0 hb0 hb1
      go_wp2_with fail
      ((with_reducible refine (HA.out _ g1).mono ?_); rintro e w2 ⟨rfl, hb2⟩)
      have g2 := gtr g1 hb2
      have R2 := R1.below hb2 R1.lt
      clear R1 hb2 g1
      go_wp2_with fail
      ((with_reducible refine (HB.out _ g2).mono ?_); rintro e w3 ⟨rfl, hb3⟩)
      have g3 := gtr g2 hb3
      have R3 := R2.below hb3 R2.lt
      clear R2 hb3 g2
      have hl3 := R3.lt
      have hne : ¬ w3.heap.size = w.heap.size := by omega
      go_wp2_with fail
      have A3 := bel1 w3 (.cells #[.int .i64 x, .int .i64 y] 23)
      have Q3 := Blk.new w3 23 #[.int .i64 x, .int .i64 y]
      ((with_reducible refine (HG.out _).mono ?_); rintro e w4 ⟨rfl, hb4⟩)
      have hb34 := gtr A3 hb4
      have g4 := gtr g3 hb34
      have R4 := R3.below hb34 hl3
      have Q4 := Q3.below hb4 Q3.lt
      have r0 : w4.cell? ⟨w.heap.size, 0, none⟩ = some (.int .i64 0) := R4.cell 0
      have r1 : w4.cell? ⟨w.heap.size, 1, none⟩ = some (.int .i64 0) := R4.cell 1
      have rf0 : w4.frozen? ⟨w.heap.size, 0, none⟩ = false := R4.frozen 0
      have rf1 : w4.frozen? ⟨w.heap.size, 1, none⟩ = false := R4.frozen 1
      have q0 : w4.cell? ⟨w3.heap.size, 0, none⟩ = some (.int .i64 x) := Q4.cell 0
      have q1 : w4.cell? ⟨w3.heap.size, 1, none⟩ = some (.int .i64 y) := Q4.cell 1
      clear A3 Q3 hb4 hb34 R4 Q4 R3
      go_wp2
      refine bodyPost_ret (v := .tuple #[.agg #[.int .i64 0, .int .i64 0], .bool false]) (by simp [results, Tryd.results9, go_sem, r0, r1]) rfl ⟨rfl, ?_⟩
      (repeat (first | exact g4 | refine Below.setCell ?_ (by first | (simp; done) | (simp; omega)) _ | refine Below.alloc ?_ (by first | (simp; done) | (simp; omega)) _))
    · have HP0 : Hid ((if (true && (true && (true && true))) = true then Ending.returned (.tuple #[.agg #[.int .i64 x, .int .i64 y], .bool true]) else .returned (.tuple #[.agg #[.int .i64 0, .int .i64 0], .bool false])) = .returned (.tuple #[.agg #[.int .i64 x, .int .i64 y], .bool true])) := Lib.hid (by simp)
      rw [HP0.out]
      clear HP0
      go_enter Tryd.func9, Tryd.ntmps9
      go_wp2_with fail
      have hb0 := bel1 w (.cells #[.int .i64 0, .int .i64 0] 23)
      have R0 := Blk.new w 23 #[.int .i64 0, .int .i64 0]
      ((with_reducible refine (HCUT.out _).mono ?_); rintro e w1 ⟨rfl, hb1⟩)
      have g1 := gtr hb0 hb1
      have R1 := R0.below hb1 R0.lt
      clear R0 hb0 hb1
      go_wp2_with fail
      ((with_reducible refine (HA.out _ g1).mono ?_); rintro e w2 ⟨rfl, hb2⟩)
      have g2 := gtr g1 hb2
      have R2 := R1.below hb2 R1.lt
      clear R1 hb2 g1
      go_wp2_with fail
      ((with_reducible refine (HB.out _ g2).mono ?_); rintro e w3 ⟨rfl, hb3⟩)
      have g3 := gtr g2 hb3
      have R3 := R2.below hb3 R2.lt
      clear R2 hb3 g2
      have hl3 := R3.lt
      have hne : ¬ w3.heap.size = w.heap.size := by omega
      go_wp2_with fail
      have A3 := bel1 w3 (.cells #[.int .i64 x, .int .i64 y] 23)
      have Q3 := Blk.new w3 23 #[.int .i64 x, .int .i64 y]
      ((with_reducible refine (HG.out _).mono ?_); rintro e w4 ⟨rfl, hb4⟩)
      have hb34 := gtr A3 hb4
      have g4 := gtr g3 hb34
      have R4 := R3.below hb34 hl3
      have Q4 := Q3.below hb4 Q3.lt
      have r0 : w4.cell? ⟨w.heap.size, 0, none⟩ = some (.int .i64 0) := R4.cell 0
      have r1 : w4.cell? ⟨w.heap.size, 1, none⟩ = some (.int .i64 0) := R4.cell 1
      have rf0 : w4.frozen? ⟨w.heap.size, 0, none⟩ = false := R4.frozen 0
      have rf1 : w4.frozen? ⟨w.heap.size, 1, none⟩ = false := R4.frozen 1
      have q0 : w4.cell? ⟨w3.heap.size, 0, none⟩ = some (.int .i64 x) := Q4.cell 0
      have q1 : w4.cell? ⟨w3.heap.size, 1, none⟩ = some (.int .i64 y) := Q4.cell 1
      clear A3 Q3 hb4 hb34 R4 Q4 R3
      go_wp2
      refine bodyPost_ret (v := .tuple #[.agg #[.int .i64 x, .int .i64 y], .bool true]) (by simp [results, Tryd.results9, go_sem, r0, r1]) rfl ⟨rfl, ?_⟩
      (repeat (first | exact g4 | refine Below.setCell ?_ (by first | (simp; done) | (simp; omega)) _ | refine Below.alloc ?_ (by first | (simp; done) | (simp; omega)) _))
  · have HP0 : Hid ((if (sp && (okx && (oky && g))) = true then Ending.returned (.tuple #[.agg #[.int .i64 x, .int .i64 y], .bool true]) else .returned (.tuple #[.agg #[.int .i64 0, .int .i64 0], .bool false])) = .returned (.tuple #[.agg #[.int .i64 0, .int .i64 0], .bool false])) := Lib.hid (if_neg (by revert hall; cases sp <;> cases okx <;> cases oky <;> simp))
    rw [HP0.out]
    clear HP0
    cases sp <;> cases okx <;> cases oky
    all_goals first
      | exact absurd rfl hall
      | (clear hall
         go_enter Tryd.func9, Tryd.ntmps9
         go_wp2_with fail
         have hb0 := bel1 w (.cells #[.int .i64 0, .int .i64 0] 23)
         have R0 := Blk.new w 23 #[.int .i64 0, .int .i64 0]
         ((with_reducible refine (HCUT.out _).mono ?_); rintro e w1 ⟨rfl, hb1⟩)
         have g1 := gtr hb0 hb1
         have R1 := R0.below hb1 R0.lt
         clear R0 hb0 hb1
         go_wp2_with fail
         ((with_reducible refine (HA.out _ g1).mono ?_); rintro e w2 ⟨rfl, hb2⟩)
         have g2 := gtr g1 hb2
         have R2 := R1.below hb2 R1.lt
         clear R1 hb2 g1
         go_wp2_with fail
         ((with_reducible refine (HB.out _ g2).mono ?_); rintro e w3 ⟨rfl, hb3⟩)
         have g3 := gtr g2 hb3
         have R3 := R2.below hb3 R2.lt
         clear R2 hb3 g2
         have hl3 := R3.lt
         have hne : ¬ w3.heap.size = w.heap.size := by omega
         have r0 : w3.cell? ⟨w.heap.size, 0, none⟩ = some (.int .i64 0) := R3.cell 0
         have r1 : w3.cell? ⟨w.heap.size, 1, none⟩ = some (.int .i64 0) := R3.cell 1
         have rf0 : w3.frozen? ⟨w.heap.size, 0, none⟩ = false := R3.frozen 0
         have rf1 : w3.frozen? ⟨w.heap.size, 1, none⟩ = false := R3.frozen 1
         go_wp2
         have BF := ((R3.set 0 (.int .i64 0)).set 1 (.int .i64 0)).alloc (.cells #[.int .i64 x, .int .i64 y] 23)
         have f0 : (((w3.setCell ⟨w.heap.size, 0, none⟩ (.int .i64 0)).setCell ⟨w.heap.size, 1, none⟩ (.int .i64 0)).alloc (.cells #[.int .i64 x, .int .i64 y] 23)).cell? ⟨w.heap.size, 0, none⟩ = some (.int .i64 0) := BF.cell 0
         have f1 : (((w3.setCell ⟨w.heap.size, 0, none⟩ (.int .i64 0)).setCell ⟨w.heap.size, 1, none⟩ (.int .i64 0)).alloc (.cells #[.int .i64 x, .int .i64 y] 23)).cell? ⟨w.heap.size, 1, none⟩ = some (.int .i64 0) := BF.cell 1
         refine bodyPost_ret (v := .tuple #[.agg #[.int .i64 0, .int .i64 0], .bool false]) (by simp [results, Tryd.results9, go_sem, f0, f1]) rfl ⟨rfl, ?_⟩
         (repeat (first | exact g3 | refine Below.setCell ?_ (by first | (simp; done) | (simp; omega)) _ | refine Below.alloc ?_ (by first | (simp; done) | (simp; omega)) _)))
end Go.Proofs.YtfafnjlembbemaaDoor
