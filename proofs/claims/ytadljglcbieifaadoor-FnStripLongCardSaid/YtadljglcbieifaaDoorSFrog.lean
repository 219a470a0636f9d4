/- The moves of strips: the reference's, by contracts. Conditions: none. -/
import Derived.Test.YtadljglcbieifaaDoorSClob
namespace Go.Proofs.YtadljglcbieifaaDoor
open Go.RowKit
set_option linter.unusedVariables false

theorem is46_any (s : ByteArray) (i : Int) (w : World) (hs : s.size ≤ 1000000) : Calls Tryd.prog 196 #[.string s, .int .i64 i, .int .u8 46] w fun e w' => e = .returned (.bool (isB s i 46)) ∧ w = w' := is_any s i 46 w hs
theorem is70_any (s : ByteArray) (i : Int) (w : World) (hs : s.size ≤ 1000000) : Calls Tryd.prog 196 #[.string s, .int .i64 i, .int .u8 70] w fun e w' => e = .returned (.bool (isB s i 70)) ∧ w = w' := is_any s i 70 w hs
theorem is84_any (s : ByteArray) (i : Int) (w : World) (hs : s.size ≤ 1000000) : Calls Tryd.prog 196 #[.string s, .int .i64 i, .int .u8 84] w fun e w' => e = .returned (.bool (isB s i 84)) ∧ w = w' := is_any s i 84 w hs
theorem is76_any (s : ByteArray) (i : Int) (w : World) (hs : s.size ≤ 1000000) : Calls Tryd.prog 196 #[.string s, .int .i64 i, .int .u8 76] w fun e w' => e = .returned (.bool (isB s i 76)) ∧ w = w' := is_any s i 76 w hs
theorem is82_any (s : ByteArray) (i : Int) (w : World) (hs : s.size ≤ 1000000) : Calls Tryd.prog 196 #[.string s, .int .i64 i, .int .u8 82] w fun e w' => e = .returned (.bool (isB s i 82)) ∧ w = w' := is_any s i 82 w hs
theorem dot1 : Hid ((⟨#[46]⟩ : ByteArray).data.toList = [46]) := rfl

set_option maxHeartbeats 1600000 in
theorem frogL_any (s : ByteArray) (k : Nat) (w : World) (hs : s.size ≤ 12) (hk : k < s.size) (hc : cellv s k = 84) :
    Calls Tryd.prog 195 #[.string s, .int .i64 k, .int .i64 (1), .int .u8 70] w (RetS w (toadAt 84 70 (1) (2) s k)) := by
  have hs6 : s.size ≤ 1000000 := by omega
  by_cases c1 : cellv s ((k : Int) + 1) = 46
  · have t1 : isB s ((k : Int) + 1) 46 = true := by rw [isB_eq (by decide)]; simp [c1]
    have t2 : isB s ((k : Int) + 1) 70 = false := by rw [isB_eq (by decide)]; simp [c1]
    obtain ⟨hr1, hr2⟩ := cellv_pos c1 (by decide)
    have HF : Hid (toadAt 84 70 (1) (2) s k = [str ((s.data.toList.set k 46).set ((k : Int) + 1).toNat 84)]) := by show _ = _; rw [toadAt, if_pos hc, if_pos c1]
    clear c1
    have hset1 := fun wx => setS_any s ⟨#[46]⟩ k 46 wx (by omega) (by omega) (by omega) dot1 (by decide)
    obtain ⟨p, hp⟩ : ∃ p, p = str (s.data.toList.set k 46) := ⟨_, rfl⟩
    have hpz : p.size = s.size := by rw [hp, str_size, List.length_set, data_len]
    have hset2 := fun wx => setS_any p (s.extract k (k + 1)) ((k : Int) + 1) 84 wx (by omega) (by omega) (by omega) (by show _ = _; rw [data_one s k hk, ← cellv_in hk, hc]) (by rw [← data_len, data_one s k hk]; simp)
    rw [Int.toNat_natCast, ← hp] at hset1
    obtain ⟨r, hr⟩ : ∃ r, r = str ((s.data.toList.set k 46).set ((k : Int) + 1).toNat 84) := ⟨_, rfl⟩
    have hpd : p.data.toList = s.data.toList.set k 46 := by rw [hp]; rfl
    rw [hpd, ← hr] at hset2
    rw [← hr] at HF
    have HS1 := Lib.hid hset1; have HS2 := Lib.hid hset2; have HC := Lib.hid hc; clear hset1 hset2 hr hp hpd hpz hc
    go_enter Tryd.func195, Tryd.ntmps195
    go_wp2_with (first | (go_at_call 196; (with_reducible refine (is46_any s _ _ hs6).mono ?_); rintro e w1 ⟨rfl, rfl⟩) | (go_at_call 196; (with_reducible refine (is70_any s _ _ hs6).mono ?_); rintro e w1 ⟨rfl, rfl⟩) | (go_at_call 197; (with_reducible refine (HS1.out _).mono ?_); rintro e w2 ⟨rfl, hb2⟩; have hz2 := hb2.size; simp at hz2) | (go_at_call 197; (with_reducible refine (HS2.out _).mono ?_); rintro e w3 ⟨rfl, hb3⟩; have hz3 := hb3.size) | (at_builtin; refine append_str rfl _ _ rfl w.heap.size _ [] rfl ((((Own.empty w 9 _ _ (Nat.le_refl _)).below hb2).below hb3).below ((Below.refl _ _).alloc (Nat.le_refl _) _)) _ r rfl ((Blk.new _ _ _).cell 0) (by simp) (by simp; omega) ?_; intro A2 c2 w4 ho4 hb4 hg4))
    go_ret
    exact RetS.mk (ss := toadAt 84 70 (1) (2) s k) (by rw [HF.out]; exact ho4) (by rw [HF.out]; rfl) (((Below.refl _ _).alloc (Nat.le_refl _) _).trans ((hb2.mono (by simp)).trans ((hb3.mono (by omega)).trans (((Below.refl _ _).alloc (by omega) _).trans (hb4.mono (by simp)))))) 
  · have t1 : isB s ((k : Int) + 1) 46 = false := by rw [isB_eq (by decide)]; simp [c1]
    by_cases c2 : cellv s ((k : Int) + 1) = 70
    · have t2 : isB s ((k : Int) + 1) 70 = true := by rw [isB_eq (by decide)]; simp [c2]
      by_cases c3 : cellv s ((k : Int) + 2) = 46
      · have t3 : isB s ((k : Int) + 2) 46 = true := by rw [isB_eq (by decide)]; simp [c3]
        obtain ⟨hr1, hr2⟩ := cellv_pos c3 (by decide)
        have HF : Hid (toadAt 84 70 (1) (2) s k = [str ((s.data.toList.set k 46).set ((k : Int) + 2).toNat 84)]) := by show _ = _; rw [toadAt, if_pos hc, if_neg c1, if_pos ⟨c2, c3⟩]
        clear c1 c2 c3
        have hset1 := fun wx => setS_any s ⟨#[46]⟩ k 46 wx (by omega) (by omega) (by omega) dot1 (by decide)
        obtain ⟨p, hp⟩ : ∃ p, p = str (s.data.toList.set k 46) := ⟨_, rfl⟩
        have hpz : p.size = s.size := by rw [hp, str_size, List.length_set, data_len]
        have hset2 := fun wx => setS_any p (s.extract k (k + 1)) ((k : Int) + 2) 84 wx (by omega) (by omega) (by omega) (by show _ = _; rw [data_one s k hk, ← cellv_in hk, hc]) (by rw [← data_len, data_one s k hk]; simp)
        rw [Int.toNat_natCast, ← hp] at hset1
        obtain ⟨r, hr⟩ : ∃ r, r = str ((s.data.toList.set k 46).set ((k : Int) + 2).toNat 84) := ⟨_, rfl⟩
        have hpd : p.data.toList = s.data.toList.set k 46 := by rw [hp]; rfl
        rw [hpd, ← hr] at hset2
        rw [← hr] at HF
        have HS1 := Lib.hid hset1; have HS2 := Lib.hid hset2; have HC := Lib.hid hc; clear hset1 hset2 hr hp hpd hpz hc
        go_enter Tryd.func195, Tryd.ntmps195
        go_wp2_with (first | (go_at_call 196; (with_reducible refine (is46_any s _ _ hs6).mono ?_); rintro e w1 ⟨rfl, rfl⟩) | (go_at_call 196; (with_reducible refine (is70_any s _ _ hs6).mono ?_); rintro e w1 ⟨rfl, rfl⟩) | (go_at_call 197; (with_reducible refine (HS1.out _).mono ?_); rintro e w2 ⟨rfl, hb2⟩; have hz2 := hb2.size; simp at hz2) | (go_at_call 197; (with_reducible refine (HS2.out _).mono ?_); rintro e w3 ⟨rfl, hb3⟩; have hz3 := hb3.size) | (at_builtin; refine append_str rfl _ _ rfl w.heap.size _ [] rfl ((((Own.empty w 9 _ _ (Nat.le_refl _)).below hb2).below hb3).below ((Below.refl _ _).alloc (Nat.le_refl _) _)) _ r rfl ((Blk.new _ _ _).cell 0) (by simp) (by simp; omega) ?_; intro A2 c2 w4 ho4 hb4 hg4))
        go_ret
        exact RetS.mk (ss := toadAt 84 70 (1) (2) s k) (by rw [HF.out]; exact ho4) (by rw [HF.out]; rfl) (((Below.refl _ _).alloc (Nat.le_refl _) _).trans ((hb2.mono (by simp)).trans ((hb3.mono (by omega)).trans (((Below.refl _ _).alloc (by omega) _).trans (hb4.mono (by simp))))))
      · have t3 : isB s ((k : Int) + 2) 46 = false := by rw [isB_eq (by decide)]; simp [c3]
        have HF : Hid (toadAt 84 70 (1) (2) s k = []) := by show _ = _; rw [toadAt, if_pos hc, if_neg c1, if_neg fun h => c3 h.2]
        clear c1 c2 c3 hc
        go_enter Tryd.func195, Tryd.ntmps195
        go_wp2_with (first | (go_at_call 196; (with_reducible refine (is46_any s _ _ hs6).mono ?_); rintro e w1 ⟨rfl, rfl⟩) | (go_at_call 196; (with_reducible refine (is70_any s _ _ hs6).mono ?_); rintro e w1 ⟨rfl, rfl⟩))
        go_ret
        exact RetS.mk (ss := toadAt 84 70 (1) (2) s k) (by rw [HF.out]; exact Own.empty w 9 _ _ (Nat.le_refl _)) (by rw [HF.out]; rfl) ((Below.refl _ _).alloc (Nat.le_refl _) _)
    · have t2 : isB s ((k : Int) + 1) 70 = false := by rw [isB_eq (by decide)]; simp [c2]
      have HF : Hid (toadAt 84 70 (1) (2) s k = []) := by show _ = _; rw [toadAt, if_pos hc, if_neg c1, if_neg fun h => c2 h.1]
      clear c1 c2 hc
      go_enter Tryd.func195, Tryd.ntmps195
      go_wp2_with (first | (go_at_call 196; (with_reducible refine (is46_any s _ _ hs6).mono ?_); rintro e w1 ⟨rfl, rfl⟩) | (go_at_call 196; (with_reducible refine (is70_any s _ _ hs6).mono ?_); rintro e w1 ⟨rfl, rfl⟩))
      go_ret
      exact RetS.mk (ss := toadAt 84 70 (1) (2) s k) (by rw [HF.out]; exact Own.empty w 9 _ _ (Nat.le_refl _)) (by rw [HF.out]; rfl) ((Below.refl _ _).alloc (Nat.le_refl _) _)

set_option maxHeartbeats 1600000 in
theorem frogR_any (s : ByteArray) (k : Nat) (w : World) (hs : s.size ≤ 12) (hk : k < s.size) (hc : cellv s k = 70) :
    Calls Tryd.prog 195 #[.string s, .int .i64 k, .int .i64 (-1), .int .u8 84] w (RetS w (toadAt 70 84 (-1) (-2) s k)) := by
  have hs6 : s.size ≤ 1000000 := by omega
  by_cases c1 : cellv s ((k : Int) + -1) = 46
  · have t1 : isB s ((k : Int) + -1) 46 = true := by rw [isB_eq (by decide)]; simp [c1]
    have t2 : isB s ((k : Int) + -1) 84 = false := by rw [isB_eq (by decide)]; simp [c1]
    obtain ⟨hr1, hr2⟩ := cellv_pos c1 (by decide)
    have HF : Hid (toadAt 70 84 (-1) (-2) s k = [str ((s.data.toList.set k 46).set ((k : Int) + -1).toNat 70)]) := by show _ = _; rw [toadAt, if_pos hc, if_pos c1]
    clear c1
    have hset1 := fun wx => setS_any s ⟨#[46]⟩ k 46 wx (by omega) (by omega) (by omega) dot1 (by decide)
    obtain ⟨p, hp⟩ : ∃ p, p = str (s.data.toList.set k 46) := ⟨_, rfl⟩
    have hpz : p.size = s.size := by rw [hp, str_size, List.length_set, data_len]
    have hset2 := fun wx => setS_any p (s.extract k (k + 1)) ((k : Int) + -1) 70 wx (by omega) (by omega) (by omega) (by show _ = _; rw [data_one s k hk, ← cellv_in hk, hc]) (by rw [← data_len, data_one s k hk]; simp)
    rw [Int.toNat_natCast, ← hp] at hset1
    obtain ⟨r, hr⟩ : ∃ r, r = str ((s.data.toList.set k 46).set ((k : Int) + -1).toNat 70) := ⟨_, rfl⟩
    have hpd : p.data.toList = s.data.toList.set k 46 := by rw [hp]; rfl
    rw [hpd, ← hr] at hset2
    rw [← hr] at HF
    have HS1 := Lib.hid hset1; have HS2 := Lib.hid hset2; have HC := Lib.hid hc; clear hset1 hset2 hr hp hpd hpz hc
    go_enter Tryd.func195, Tryd.ntmps195
    go_wp2_with (first | (go_at_call 196; (with_reducible refine (is46_any s _ _ hs6).mono ?_); rintro e w1 ⟨rfl, rfl⟩) | (go_at_call 196; (with_reducible refine (is84_any s _ _ hs6).mono ?_); rintro e w1 ⟨rfl, rfl⟩) | (go_at_call 197; (with_reducible refine (HS1.out _).mono ?_); rintro e w2 ⟨rfl, hb2⟩; have hz2 := hb2.size; simp at hz2) | (go_at_call 197; (with_reducible refine (HS2.out _).mono ?_); rintro e w3 ⟨rfl, hb3⟩; have hz3 := hb3.size) | (at_builtin; refine append_str rfl _ _ rfl w.heap.size _ [] rfl ((((Own.empty w 9 _ _ (Nat.le_refl _)).below hb2).below hb3).below ((Below.refl _ _).alloc (Nat.le_refl _) _)) _ r rfl ((Blk.new _ _ _).cell 0) (by simp) (by simp; omega) ?_; intro A2 c2 w4 ho4 hb4 hg4))
    go_ret
    exact RetS.mk (ss := toadAt 70 84 (-1) (-2) s k) (by rw [HF.out]; exact ho4) (by rw [HF.out]; rfl) (((Below.refl _ _).alloc (Nat.le_refl _) _).trans ((hb2.mono (by simp)).trans ((hb3.mono (by omega)).trans (((Below.refl _ _).alloc (by omega) _).trans (hb4.mono (by simp)))))) 
  · have t1 : isB s ((k : Int) + -1) 46 = false := by rw [isB_eq (by decide)]; simp [c1]
    by_cases c2 : cellv s ((k : Int) + -1) = 84
    · have t2 : isB s ((k : Int) + -1) 84 = true := by rw [isB_eq (by decide)]; simp [c2]
      by_cases c3 : cellv s ((k : Int) + -2) = 46
      · have t3 : isB s ((k : Int) + -2) 46 = true := by rw [isB_eq (by decide)]; simp [c3]
        obtain ⟨hr1, hr2⟩ := cellv_pos c3 (by decide)
        have HF : Hid (toadAt 70 84 (-1) (-2) s k = [str ((s.data.toList.set k 46).set ((k : Int) + -2).toNat 70)]) := by show _ = _; rw [toadAt, if_pos hc, if_neg c1, if_pos ⟨c2, c3⟩]
        clear c1 c2 c3
        have hset1 := fun wx => setS_any s ⟨#[46]⟩ k 46 wx (by omega) (by omega) (by omega) dot1 (by decide)
        obtain ⟨p, hp⟩ : ∃ p, p = str (s.data.toList.set k 46) := ⟨_, rfl⟩
        have hpz : p.size = s.size := by rw [hp, str_size, List.length_set, data_len]
        have hset2 := fun wx => setS_any p (s.extract k (k + 1)) ((k : Int) + -2) 70 wx (by omega) (by omega) (by omega) (by show _ = _; rw [data_one s k hk, ← cellv_in hk, hc]) (by rw [← data_len, data_one s k hk]; simp)
        rw [Int.toNat_natCast, ← hp] at hset1
        obtain ⟨r, hr⟩ : ∃ r, r = str ((s.data.toList.set k 46).set ((k : Int) + -2).toNat 70) := ⟨_, rfl⟩
        have hpd : p.data.toList = s.data.toList.set k 46 := by rw [hp]; rfl
        rw [hpd, ← hr] at hset2
        rw [← hr] at HF
        have HS1 := Lib.hid hset1; have HS2 := Lib.hid hset2; have HC := Lib.hid hc; clear hset1 hset2 hr hp hpd hpz hc
        go_enter Tryd.func195, Tryd.ntmps195
        go_wp2_with (first | (go_at_call 196; (with_reducible refine (is46_any s _ _ hs6).mono ?_); rintro e w1 ⟨rfl, rfl⟩) | (go_at_call 196; (with_reducible refine (is84_any s _ _ hs6).mono ?_); rintro e w1 ⟨rfl, rfl⟩) | (go_at_call 197; (with_reducible refine (HS1.out _).mono ?_); rintro e w2 ⟨rfl, hb2⟩; have hz2 := hb2.size; simp at hz2) | (go_at_call 197; (with_reducible refine (HS2.out _).mono ?_); rintro e w3 ⟨rfl, hb3⟩; have hz3 := hb3.size) | (at_builtin; refine append_str rfl _ _ rfl w.heap.size _ [] rfl ((((Own.empty w 9 _ _ (Nat.le_refl _)).below hb2).below hb3).below ((Below.refl _ _).alloc (Nat.le_refl _) _)) _ r rfl ((Blk.new _ _ _).cell 0) (by simp) (by simp; omega) ?_; intro A2 c2 w4 ho4 hb4 hg4))
        go_ret
        exact RetS.mk (ss := toadAt 70 84 (-1) (-2) s k) (by rw [HF.out]; exact ho4) (by rw [HF.out]; rfl) (((Below.refl _ _).alloc (Nat.le_refl _) _).trans ((hb2.mono (by simp)).trans ((hb3.mono (by omega)).trans (((Below.refl _ _).alloc (by omega) _).trans (hb4.mono (by simp))))))
      · have t3 : isB s ((k : Int) + -2) 46 = false := by rw [isB_eq (by decide)]; simp [c3]
        have HF : Hid (toadAt 70 84 (-1) (-2) s k = []) := by show _ = _; rw [toadAt, if_pos hc, if_neg c1, if_neg fun h => c3 h.2]
        clear c1 c2 c3 hc
        go_enter Tryd.func195, Tryd.ntmps195
        go_wp2_with (first | (go_at_call 196; (with_reducible refine (is46_any s _ _ hs6).mono ?_); rintro e w1 ⟨rfl, rfl⟩) | (go_at_call 196; (with_reducible refine (is84_any s _ _ hs6).mono ?_); rintro e w1 ⟨rfl, rfl⟩))
        go_ret
        exact RetS.mk (ss := toadAt 70 84 (-1) (-2) s k) (by rw [HF.out]; exact Own.empty w 9 _ _ (Nat.le_refl _)) (by rw [HF.out]; rfl) ((Below.refl _ _).alloc (Nat.le_refl _) _)
    · have t2 : isB s ((k : Int) + -1) 84 = false := by rw [isB_eq (by decide)]; simp [c2]
      have HF : Hid (toadAt 70 84 (-1) (-2) s k = []) := by show _ = _; rw [toadAt, if_pos hc, if_neg c1, if_neg fun h => c2 h.1]
      clear c1 c2 hc
      go_enter Tryd.func195, Tryd.ntmps195
      go_wp2_with (first | (go_at_call 196; (with_reducible refine (is46_any s _ _ hs6).mono ?_); rintro e w1 ⟨rfl, rfl⟩) | (go_at_call 196; (with_reducible refine (is84_any s _ _ hs6).mono ?_); rintro e w1 ⟨rfl, rfl⟩))
      go_ret
      exact RetS.mk (ss := toadAt 70 84 (-1) (-2) s k) (by rw [HF.out]; exact Own.empty w 9 _ _ (Nat.le_refl _)) (by rw [HF.out]; rfl) ((Below.refl _ _).alloc (Nat.le_refl _) _)

/-- 'append(l, m...)' at texts. -/
theorem append_strs {w : World} {ops : Array Oper} {rest : List Oper} {o : Oper} {a : Act} {Q : Exit → Act → World → Prop} (hgd : o.guard = none) (s x : Operand)
    (ho : o.op = .call { callee := .builtin .append, args := #[s, x], argTypes := #[53, 53] })
    (base : Nat) (v : Value) (ss : List ByteArray) (hs : a.eval s = v) (hown : Own w base 9 v (scells ss)) (B : Nat) (A : Option Addr) (m c : Nat) (ts : List ByteArray) (hx : a.eval x = .slice A m c) (hm : m = ts.length) (hd : Rd w B A c (scells ts))
    (hlen : ss.length + ts.length ≤ 1000000000) (hbase : base ≤ w.heap.size)
    (h : ∀ A c w', Own w' base 9 (.slice A (ss.length + ts.length) c) (scells (ss ++ ts)) → Below base w w' → w.grownBy w' v.ownBlock → wpList Tryd.prog ops Q rest (a.put o.dst (.slice A (ss.length + ts.length) c)) w') :
    wpList Tryd.prog ops Q (o :: rest) a w := by
  refine wpList_append_rd hgd s x 53 9 (.string ByteArray.empty) 16 ho Tryd.underlying53 infoStr rfl (by omega) base v (scells ss) hs hown B A m c (scells ts) hx (by rw [scells_len]; exact hm) hd (fun u hu => by simp [scells] at hu; obtain ⟨t, _, rfl⟩ := hu; rfl) (by rw [scells_len, scells_len]; exact hlen) hbase ?_
  intro A c w' h1 h2 h3
  rw [scells_len, scells_len] at h1 ⊢
  refine h A c w' ?_ h2 h3
  have e : scells (ss ++ ts) = scells ss ++ scells ts := by simp [scells]
  rw [e]; exact h1

set_option maxRecDepth 100000 in
set_option maxHeartbeats 1600000 in
theorem movesS0L_any (s : ByteArray) (w : World) (hs : s.size ≤ 12) :
    Calls Tryd.prog 154 #[.int .i64 0, .string s, .bool true] w (RetS w (acc (toadAt 84 70 (1) (2) s) s.size)) := by
  go_enter Tryd.func154, Tryd.ntmps154
  go_wp2
  go_loopw [7, 10] (fun v i wr => ∃ (k n : Nat) (A : Option Addr) (c : Nat), i = .int .i64 k ∧ k ≤ s.size ∧ v = .slice A n c ∧ n = (acc (toadAt 84 70 (1) (2) s) k).length ∧ Own wr w.heap.size 9 (.slice A n c) (scells (acc (toadAt 84 70 (1) (2) s) k)) ∧ Below w.heap.size w wr) (fun _ i _ => s.size - (intOf i).toNat)
  case atStart => exact ⟨0, 0, _, _, rfl, by omega, rfl, rfl, Own.empty _ 9 _ _ (Nat.le_refl _), (Below.refl _ _).alloc (Nat.le_refl _) _⟩
  case round =>
    obtain ⟨k, n, A, c, rfl, hk, rfl, hn, ho, hb⟩ := hrel
    have hle := acc_le (toadAt 84 70 (1) (2) s) 1 (toadAt_le _ _ _ _ s) k
    rw [← hn] at hle
    have HN : Hid ((acc (toadAt 84 70 (1) (2) s) k).length = n) := hn.symm
    clear hn
    have hzr := hb.size
    by_cases hlt : k < s.size
    · have HC := Lib.hid (cellv_in hlt)
      by_cases c0 : s[k] = 84
      · have t0 := beq_t 84 rfl c0
        have H0 : Hid (cellv s k = 84) := by show _ = _; rw [HC.out]; exact c0
        clear c0
        have hfl := toadAt_le 84 70 (1) (2) s k
        go_wp2_with (first | (go_at_call 195; (with_reducible refine (frogL_any s k _ hs hlt H0.out).mono ?_); rintro e w2 ⟨A1, c1, rfl, ho1, hb2⟩; have hz2 := hb2.size) | (at_builtin; refine append_strs rfl _ _ rfl w.heap.size _ (acc (toadAt 84 70 (1) (2) s) k) rfl (ho.below hb2) w2.heap.size A1 _ c1 (toadAt 84 70 (1) (2) s k) rfl rfl ho1.rd (by rw [HN.out]; omega) (by omega) ?_; intro A2 c2 w3 ho3 hb3 hg3; rw [HN.out] at ho3 ⊢))
        have HO3 : Hid (Own w3 w.heap.size 9 (.slice A2 (n + (toadAt 84 70 (1) (2) s k).length) c2) (scells (acc (toadAt 84 70 (1) (2) s) (k + 1)))) := by
          show Own _ _ _ _ _
          rw [acc_succ]; exact ho3
        clear ho3
        go_roundw
        case rel => exact ⟨k + 1, _, A2, c2, by go_num, by omega, rfl, by rw [acc_succ, List.length_append, HN.out], HO3.out, hb.trans ((hb2.mono hzr).trans hb3)⟩
        case measure => simp [intOf]; omega
      · have t0 := beq_f 84 rfl c0
        have HF : Hid ((toadAt 84 70 (1) (2) s) k = []) := by show toadAt _ _ _ _ _ _ = _; rw [toadAt, if_neg (by rw [HC.out]; exact c0)]
        have HO := Lib.hid ho; clear ho c0
        go_wp2_with fail
        go_roundw
        case rel => exact ⟨k + 1, n, A, c, by go_num, by omega, rfl, by rw [← acc_nil HF.out, HN.out], by rw [← acc_nil HF.out]; exact HO.out, hb⟩
        case measure => simp [intOf]; omega
    · obtain rfl : k = s.size := by omega
      have HO := Lib.hid ho; clear ho
      go_wp2
      go_ret
      exact RetS.mk HO.out HN.out.symm hb

set_option maxRecDepth 100000 in
set_option maxHeartbeats 1600000 in
theorem movesS0R_any (s : ByteArray) (w : World) (hs : s.size ≤ 12) :
    Calls Tryd.prog 154 #[.int .i64 0, .string s, .bool false] w (RetS w (acc (toadAt 70 84 (-1) (-2) s) s.size)) := by
  go_enter Tryd.func154, Tryd.ntmps154
  go_wp2
  go_loopw [7, 10] (fun v i wr => ∃ (k n : Nat) (A : Option Addr) (c : Nat), i = .int .i64 k ∧ k ≤ s.size ∧ v = .slice A n c ∧ n = (acc (toadAt 70 84 (-1) (-2) s) k).length ∧ Own wr w.heap.size 9 (.slice A n c) (scells (acc (toadAt 70 84 (-1) (-2) s) k)) ∧ Below w.heap.size w wr) (fun _ i _ => s.size - (intOf i).toNat)
  case atStart => exact ⟨0, 0, _, _, rfl, by omega, rfl, rfl, Own.empty _ 9 _ _ (Nat.le_refl _), (Below.refl _ _).alloc (Nat.le_refl _) _⟩
  case round =>
    obtain ⟨k, n, A, c, rfl, hk, rfl, hn, ho, hb⟩ := hrel
    have hle := acc_le (toadAt 70 84 (-1) (-2) s) 1 (toadAt_le _ _ _ _ s) k
    rw [← hn] at hle
    have HN : Hid ((acc (toadAt 70 84 (-1) (-2) s) k).length = n) := hn.symm
    clear hn
    have hzr := hb.size
    by_cases hlt : k < s.size
    · have HC := Lib.hid (cellv_in hlt)
      by_cases c0 : s[k] = 70
      · have t0 := beq_t 70 rfl c0
        have H0 : Hid (cellv s k = 70) := by show _ = _; rw [HC.out]; exact c0
        clear c0
        have hfl := toadAt_le 70 84 (-1) (-2) s k
        go_wp2_with (first | (go_at_call 195; (with_reducible refine (frogR_any s k _ hs hlt H0.out).mono ?_); rintro e w2 ⟨A1, c1, rfl, ho1, hb2⟩; have hz2 := hb2.size) | (at_builtin; refine append_strs rfl _ _ rfl w.heap.size _ (acc (toadAt 70 84 (-1) (-2) s) k) rfl (ho.below hb2) w2.heap.size A1 _ c1 (toadAt 70 84 (-1) (-2) s k) rfl rfl ho1.rd (by rw [HN.out]; omega) (by omega) ?_; intro A2 c2 w3 ho3 hb3 hg3; rw [HN.out] at ho3 ⊢))
        have HO3 : Hid (Own w3 w.heap.size 9 (.slice A2 (n + (toadAt 70 84 (-1) (-2) s k).length) c2) (scells (acc (toadAt 70 84 (-1) (-2) s) (k + 1)))) := by
          show Own _ _ _ _ _
          rw [acc_succ]; exact ho3
        clear ho3
        go_roundw
        case rel => exact ⟨k + 1, _, A2, c2, by go_num, by omega, rfl, by rw [acc_succ, List.length_append, HN.out], HO3.out, hb.trans ((hb2.mono hzr).trans hb3)⟩
        case measure => simp [intOf]; omega
      · have t0 := beq_f 70 rfl c0
        have HF : Hid ((toadAt 70 84 (-1) (-2) s) k = []) := by show toadAt _ _ _ _ _ _ = _; rw [toadAt, if_neg (by rw [HC.out]; exact c0)]
        have HO := Lib.hid ho; clear ho c0
        go_wp2_with fail
        go_roundw
        case rel => exact ⟨k + 1, n, A, c, by go_num, by omega, rfl, by rw [← acc_nil HF.out, HN.out], by rw [← acc_nil HF.out]; exact HO.out, hb⟩
        case measure => simp [intOf]; omega
    · obtain rfl : k = s.size := by omega
      have HO := Lib.hid ho; clear ho
      go_wp2
      go_ret
      exact RetS.mk HO.out HN.out.symm hb
end Go.Proofs.YtadljglcbieifaaDoor
