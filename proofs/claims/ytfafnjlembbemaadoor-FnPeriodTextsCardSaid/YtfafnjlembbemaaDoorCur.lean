/- The cursor of the draws: next, pick, one, among, by contracts. Conditions: none. -/
import Derived.Test.YtfafnjlembbemaaDoorRowsG
import Derived.Test.YtfafnjlembbemaaDoorMemAt
import Derived.Deep.QuietTactic
import Derived.BigQuiet
import Derived.WalkLawsBesides
import Derived.WalkSpells
import Derived.Outline
import Derived.ProofKit
import Derived.Test.YtfafnjlembbemaaDoorBits
namespace Go.Proofs.YtfafnjlembbemaaDoor
open Go.RowKit
set_option linter.unusedVariables false

/-- Bytes as cells. -/
def byts (bs : List Int) : List Value := bs.map (.int .u8)
/-- All blocks below B but block g are as they were. -/
def Gb (B g : Nat) (a b : World) : Prop := b.os = a.os ∧ b.tape = a.tape ∧ b.output = a.output ∧ a.heap.size ≤ b.heap.size ∧ ∀ k, k < B → k ≠ g → b.heap[k]? = a.heap[k]?
theorem Gb.refl (B g : Nat) (w : World) : Gb B g w w := ⟨rfl, rfl, rfl, Nat.le_refl _, fun _ _ _ => rfl⟩
theorem Gb.of_below {B g : Nat} {a b : World} (h : Below B a b) : Gb B g a b := ⟨h.os, h.tape, h.output, h.size, fun k hk _ => h.block k hk⟩
theorem Gb.trans {B g : Nat} {a b c : World} (h : Gb B g a b) (k : Gb B g b c) : Gb B g a c :=
  ⟨k.1.trans h.1, k.2.1.trans h.2.1, k.2.2.1.trans h.2.2.1, Nat.le_trans h.2.2.2.1 k.2.2.2.1, fun j hj hg => (k.2.2.2.2 j hj hg).trans (h.2.2.2.2 j hj hg)⟩
theorem Gb.mono {B B' g : Nat} {a b : World} (h : Gb B g a b) (hB : B' ≤ B) : Gb B' g a b := ⟨h.1, h.2.1, h.2.2.1, h.2.2.2.1, fun k hk => h.2.2.2.2 k (Nat.lt_of_lt_of_le hk hB)⟩
theorem Gb.size {B g : Nat} {a b : World} (h : Gb B g a b) : a.heap.size ≤ b.heap.size := h.2.2.2.1
theorem Gb.block {B g : Nat} {a b : World} (h : Gb B g a b) (k : Nat) (hk : k < B) (hg : k ≠ g) : b.heap[k]? = a.heap[k]? := h.2.2.2.2 k hk hg
theorem Gb.below {B g : Nat} {a b : World} (h : Gb B g a b) (hg : B ≤ g) : Below B a b := ⟨h.1, h.2.1, h.2.2.1, h.2.2.2.1, fun k hk => h.2.2.2.2 k hk (by omega)⟩
theorem gbtr {g : Nat} {a b c : World} (h : Gb a.heap.size g a b) (k : Gb b.heap.size g b c) : Gb a.heap.size g a c := h.trans (k.mono h.size)
theorem gbel {g : Nat} {a b c : World} (h : Gb a.heap.size g a b) (k : Below b.heap.size b c) : Gb a.heap.size g a c := gbtr h (Gb.of_below k)
theorem Gb.cell {B g : Nat} {a b : World} (h : Gb B g a b) {p : Addr} (hp : p.block < B) (hg : p.block ≠ g) : b.cell? p = a.cell? p := by
  unfold World.cell?
  rw [h.block _ hp hg]
theorem Blk.gb {w w' : World} {B g k : Nat} {t : TypeId} {cs : Array Value} (h : Blk w k t cs) (hb : Gb B g w w') (hk : k < B) (hg : k ≠ g) : Blk w' k t cs := (hb.block k hk hg).trans h
theorem Rd.gb {w w' : World} {lo B B' g c : Nat} {A : Option Addr} {cs : List Value} (h : Rd w B A c cs) (hl : Lo lo A) (hb : Gb B' g w w') (hB : B ≤ B') (hg : g < lo ∨ B ≤ g) : Rd w' B A c cs :=
  ⟨h.1, h.2.1, h.2.2.1, fun j hj => by
    obtain ⟨b, o, hA, hbB, hc⟩ := h.2.2.2 j hj
    have hlb : lo ≤ b := by first | exact hl _ hA | (have := hl ⟨b, o, none⟩ hA; exact this)
    exact ⟨b, o, hA, hbB, fun i u hi => (hb.cell (p := ⟨b, o + i, none⟩) (by show b < _; omega) (by show b ≠ _; omega)).trans (hc i u hi)⟩⟩
theorem Own.gb {w w' : World} {base g : Nat} {E : TypeId} {v : Value} {cs : List Value} (h : Own w base E v cs) (hg : g < base) (hb : Gb w.heap.size g w w') : Own w' base E v cs := by
  have hl := h.lt
  obtain ⟨h1, h2⟩ := h
  refine ⟨h1, ?_⟩
  rcases h2 with h2 | ⟨k, cap, cur, hv, hgb, hh, r⟩
  · exact Or.inl h2
  · have hk := hl k (by rw [hv]; rfl)
    exact Or.inr ⟨k, cap, cur, hv, hgb, (hb.block k hk.2 (by omega)).trans hh, r⟩

/-- Block g is a cursor over bytes that lie below block B (and below g), with at most a steps done. -/
def Cur (w : World) (B g a : Nat) : Prop :=
  ∃ (A : Option Addr) (c : Nat) (bs : List Int) (k : Nat) (seed : Int), Blk w g 60 #[.slice A bs.length c, .int .i64 k, .int .u64 seed] ∧ Rd w B A c (byts bs) ∧ B ≤ g ∧ k ≤ a ∧ (∀ b ∈ bs, 0 ≤ b ∧ b ≤ 255) ∧ 0 ≤ seed ∧ seed < 18446744073709551616
theorem Cur.below {w w' : World} {B g a : Nat} (h : Cur w B g a) (hb : Below w.heap.size w w') : Cur w' B g a := by
  obtain ⟨A, c, bs, k, seed, h1, h2, h3, r⟩ := h
  exact ⟨A, c, bs, k, seed, h1.below hb h1.lt, h2.below hb (by have := h1.lt; omega), h3, r⟩
theorem Cur.more {w : World} {B g a b : Nat} (h : Cur w B g a) (hab : a ≤ b) : Cur w B g b := by
  obtain ⟨A, c, bs, k, seed, h1, h2, h3, h4, r⟩ := h
  exact ⟨A, c, bs, k, seed, h1, h2, h3, Nat.le_trans h4 hab, r⟩
theorem Cur.lt {w : World} {B g a : Nat} (h : Cur w B g a) : g < w.heap.size := by
  obtain ⟨A, c, bs, k, seed, h1, _⟩ := h
  exact h1.lt
theorem Cur.ge {w : World} {B g a : Nat} (h : Cur w B g a) : B ≤ g := by
  obtain ⟨A, c, bs, k, seed, h1, h2, h3, _⟩ := h
  exact h3

theorem wrap_u64 (x : Int) : 0 ≤ IntKind.u64.wrap x ∧ IntKind.u64.wrap x < 18446744073709551616 := by
  have h1 : IntKind.u64.wrap x = x % 18446744073709551616 := by simp [IntKind.wrap, IntKind.signed, IntKind.bits]
  rw [h1]
  omega

theorem band255 (x : Int) : 0 ≤ bits .and .u64 x 255 ∧ bits .and .u64 x 255 ≤ 255 := by
  show 0 ≤ IntKind.u64.wrap ((BitVec.ofInt 64 x &&& BitVec.ofInt 64 255).toNat : Int) ∧ IntKind.u64.wrap ((BitVec.ofInt 64 x &&& BitVec.ofInt 64 255).toNat : Int) ≤ 255
  have h2 : (BitVec.ofInt 64 255).toNat = 255 := by decide
  have hx : (BitVec.ofInt 64 x &&& BitVec.ofInt 64 255).toNat ≤ 255 := by
    rw [BitVec.toNat_and, h2]
    exact Nat.and_le_right
  rw [IntKind.wrap_u64]
  omega
theorem cur_step {w : World} {g : Nat} {t : TypeId} {a b c : Value} (h : Blk w g t #[a, b, c]) (n m : Nat) (u v : Value) :
    Blk ((((w.drewN n).setCell ⟨g, 1, none⟩ u).setCell ⟨g, 2, none⟩ v).drewN m) g t #[a, u, v] ∧ Gb w.heap.size g w ((((w.drewN n).setCell ⟨g, 1, none⟩ u).setCell ⟨g, 2, none⟩ v).drewN m) := by
  refine ⟨?_, ?_⟩
  · exact ((show Blk (w.drewN n) g t #[a, b, c] from h).set 1 u).set 2 v
  · refine ⟨rfl, rfl, rfl, by simp [World.drewN], fun k hk hne => ?_⟩
    show ((((w.drewN n).setCell ⟨g, 1, none⟩ u).setCell ⟨g, 2, none⟩ v)).heap[k]? = _
    rw [Below.heap_setCell _ _ _ _ hne, Below.heap_setCell _ _ _ _ hne]
    rfl
theorem Rd.gbe {w w' : World} {B B' g c : Nat} {A : Option Addr} {cs : List Value} (h : Rd w B A c cs) (hb : Gb B' g w w') (hB : B ≤ B') (hg : B ≤ g) : Rd w' B A c cs :=
  ⟨h.1, h.2.1, h.2.2.1, fun j hj => by
    obtain ⟨b, o, hA, hbB, hc⟩ := h.2.2.2 j hj
    exact ⟨b, o, hA, hbB, fun i u hi => (hb.cell (p := ⟨b, o + i, none⟩) (by show b < _; omega) (by show b ≠ _; omega)).trans (hc i u hi)⟩⟩
theorem cur_done {w : World} {B g a k c : Nat} {A : Option Addr} {bs : List Int} {seed S : Int} (h1 : Blk w g 60 #[.slice A bs.length c, .int .i64 k, .int .u64 seed]) (h2 : Rd w B A c (byts bs)) (h3 : B ≤ g) (h4 : k ≤ a)
    (h5 : ∀ b ∈ bs, 0 ≤ b ∧ b ≤ 255) (hS : 0 ≤ S ∧ S < 18446744073709551616) (n m : Nat) :
    Cur ((((w.drewN n).setCell ⟨g, 1, none⟩ (.int .i64 ((k : Int) + 1))).setCell ⟨g, 2, none⟩ (.int .u64 S)).drewN m) B g (a + 1) ∧ Gb w.heap.size g w ((((w.drewN n).setCell ⟨g, 1, none⟩ (.int .i64 ((k : Int) + 1))).setCell ⟨g, 2, none⟩ (.int .u64 S)).drewN m) := by
  obtain ⟨s1, s2⟩ := cur_step h1 n m (.int .i64 ((k : Int) + 1)) (.int .u64 S)
  refine ⟨⟨A, c, bs, k + 1, S, ?_, Rd.gbe h2 s2 (by have := h1.lt; omega) h3, h3, by omega, h5, hS.1, hS.2⟩, s2⟩
  have e : ((k + 1 : Nat) : Int) = (k : Int) + 1 := by omega
  rw [e]
  exact s1

/-- A draw's outcome: a number that P holds of, the cursor further on. -/
def Drawn (w : World) (B g a : Nat) (P : Int → Prop) (e : Ending) (w' : World) : Prop := ∃ x : Int, P x ∧ e = .returned (.int .i64 x) ∧ Cur w' B g a ∧ Gb w.heap.size g w w'

set_option maxHeartbeats 800000 in
theorem next_any (w : World) (B g a : Nat) (h : Cur w B g a) (ha : a ≤ 1000000000) :
    Calls Tryd.prog 95 #[.pointer (some ⟨g, 0, none⟩)] w (Drawn w B g (a + 1) fun x => 0 ≤ x ∧ x ≤ 255) := by
  obtain ⟨A, c, bs, k, seed, h1, h2, h3, h4, h5, h6, h7⟩ := h
  have hl1 := h2.len
  have hl2 := h2.max
  have c0 : w.cell? ⟨g, 0, none⟩ = some (.slice A bs.length c) := h1.cell 0
  have c1 : w.cell? ⟨g, 1, none⟩ = some (.int .i64 k) := h1.cell 1
  have c2 : w.cell? ⟨g, 2, none⟩ = some (.int .u64 seed) := h1.cell 2
  have f1 := h1.frozen 1
  have f2 := h1.frozen 2
  have hlt := h1.lt
  by_cases hk : k < bs.length
  · obtain ⟨b, o, rfl, hbB, hc⟩ := h2.at (j := k) (by simp [byts]; exact hk)
    have hck := hc k (.int .u8 (gi bs k)) (by simp [byts, gi, hk])
    have hbr := h5 (gi bs k) (by simp [gi, hk])
    clear hc
    generalize gi bs k = x at *
    go_enter Tryd.func95, Tryd.ntmps95
    go_wp2
    go_quiet (fail)
    go_wp2
    go_quiet (fail)
    go_wp2
    have hS := wrap_u64 (IntKind.u64.wrap (IntKind.u64.wrap (seed * 6364136223846793005) + x) + 868868)
    generalize IntKind.u64.wrap (IntKind.u64.wrap (IntKind.u64.wrap (seed * 6364136223846793005) + x) + 868868) = S at *
    go_quiet (fail)
    go_wp2
    go_ret
    exact ⟨x, hbr, rfl, cur_done h1 h2 h3 h4 h5 hS _ _⟩
  · go_enter Tryd.func95, Tryd.ntmps95
    go_wp2
    go_quiet (fail)
    go_wp2
    have hS := wrap_u64 (IntKind.u64.wrap (IntKind.u64.wrap (seed * 6364136223846793005)) + 868868)
    generalize IntKind.u64.wrap (IntKind.u64.wrap (IntKind.u64.wrap (seed * 6364136223846793005)) + 868868) = S at *
    go_quiet (fail)
    go_wp2
    have hbd := band255 (S / 1099511627776)
    generalize bits .and .u64 (S / 1099511627776) 255 = z at *
    have hz : wrap64 z = z := by unfold wrap64; omega
    go_ret
    refine ⟨z, hbd, ?_, cur_done h1 h2 h3 h4 h5 hS _ _⟩
    show Ending.returned (.int .i64 (wrap64 z)) = _
    rw [hz]

set_option maxHeartbeats 800000 in
theorem pick_any (w : World) (B g a n : Nat) (h : Cur w B g a) (ha : a ≤ 900000000) (hn : 1 ≤ n) (hn2 : n ≤ 60000) :
    Calls Tryd.prog 59 #[.pointer (some ⟨g, 0, none⟩), .int .i64 n] w (Drawn w B g (a + 2) fun x => 0 ≤ x ∧ x < n) := by
  by_cases h1 : n ≤ 1
  · have h1I : (n : Int) ≤ 1 := by omega
    go_enter Tryd.func59, Tryd.ntmps59
    go_wp2
    go_ret
    exact ⟨0, by omega, rfl, h.more (by omega), Gb.refl _ _ _⟩
  · have h1I : ¬ (n : Int) ≤ 1 := by omega
    have hn0 : (n : Int) ≠ 0 := by omega
    by_cases h2 : n ≤ 200
    · have h2I : ¬ (200 : Int) < (n : Int) := by omega
      have h2N : ¬ 200 < n := by omega
      go_enter Tryd.func59, Tryd.ntmps59
      go_wp2_with fail
      ((with_reducible refine (next_any _ _ _ _ h (by omega)).mono ?_); rintro e w1 ⟨x, ⟨hx0, hx1⟩, rfl, hc1, hg1⟩)
      have hm : x.tmod (n : Int) = x % (n : Int) := Int.tmod_eq_emod_of_nonneg hx0
      have hb1 := Int.emod_nonneg x hn0
      have hb2 := Int.emod_lt_of_pos x (show (0 : Int) < n by omega)
      generalize x % (n : Int) = y at *
      go_wp2
      go_ret
      exact ⟨y, ⟨hb1, hb2⟩, rfl, hc1.more (by omega), hg1⟩
    · have h2I : (200 : Int) < (n : Int) := by omega
      have h2N : 200 < n := by omega
      go_enter Tryd.func59, Tryd.ntmps59
      go_wp2_with fail
      ((with_reducible refine (next_any _ _ _ _ h (by omega)).mono ?_); rintro e w1 ⟨x, ⟨hx0, hx1⟩, rfl, hc1, hg1⟩)
      go_wp2_with fail
      ((with_reducible refine (next_any _ _ _ _ hc1 (by omega)).mono ?_); rintro e w2 ⟨x2, ⟨hx2, hx3⟩, rfl, hc2, hg2⟩)
      have hm : (x * 256 + x2).tmod (n : Int) = (x * 256 + x2) % (n : Int) := Int.tmod_eq_emod_of_nonneg (by omega)
      have hb1 := Int.emod_nonneg (x * 256 + x2) hn0
      have hb2 := Int.emod_lt_of_pos (x * 256 + x2) (show (0 : Int) < n by omega)
      generalize hq : (x * 256 + x2) % (n : Int) = y at *
      clear hq
      go_wp2
      go_ret
      exact ⟨y, ⟨hb1, hb2⟩, rfl, hc2.more (by omega), gbtr hg1 hg2⟩

/-- A draw of a sign. -/
def DrawnB (w : World) (B g a : Nat) (e : Ending) (w' : World) : Prop := ∃ b : Bool, e = .returned (.bool b) ∧ Cur w' B g a ∧ Gb w.heap.size g w w'
set_option maxHeartbeats 800000 in
theorem one_any (w : World) (B g a n : Nat) (h : Cur w B g a) (ha : a ≤ 900000000) (hn : 1 ≤ n) (hn2 : n ≤ 60000) :
    Calls Tryd.prog 38 #[.pointer (some ⟨g, 0, none⟩), .int .i64 n] w (DrawnB w B g (a + 2)) := by
  go_enter Tryd.func38, Tryd.ntmps38
  go_wp2_with fail
  ((with_reducible refine (pick_any _ _ _ _ _ h ha hn hn2).mono ?_); rintro e w1 ⟨x, ⟨hx0, hx1⟩, rfl, hc1, hg1⟩)
  go_wp2
  go_ret
  exact ⟨_, rfl, hc1, hg1⟩

set_option maxHeartbeats 800000 in
theorem among_any (w : World) (B g a : Nat) (A : Option Addr) (c : Nat) (xs : List Int) (h : Cur w B g a) (ha : a ≤ 900000000) (hx : RdI w w.heap.size A c xs) (hlo : Lo (g + 1) A) (hl : 1 ≤ xs.length) (hl2 : xs.length ≤ 60000) :
    Calls Tryd.prog 60 #[.pointer (some ⟨g, 0, none⟩), .slice A xs.length c] w (Drawn w B g (a + 2) fun x => ∃ i, i < xs.length ∧ x = gi xs i) := by
  have h1 := hx.len
  have h2 := hx.max
  go_enter Tryd.func60, Tryd.ntmps60
  go_wp2_with fail
  ((with_reducible refine (pick_any _ _ _ _ _ h ha hl hl2).mono ?_); rintro e w1 ⟨x, ⟨hx0, hx1⟩, rfl, hc1, hg1⟩)
  obtain ⟨k, rfl⟩ := Int.eq_ofNat_of_zero_le hx0
  have hk : k < xs.length := by omega
  have hx' : RdI w1 w.heap.size A c xs := Rd.gb (lo := g + 1) hx hlo hg1 (Nat.le_refl _) (.inl (by omega))
  obtain ⟨b, o, rfl, hbB, hc⟩ := hx'.at (j := k) hk
  have hck := hc k hk
  clear hc hx hx' hlo
  go_wp2
  go_ret
  exact ⟨gi xs k, ⟨k, hk, rfl⟩, rfl, hc1, hg1⟩

theorem pickI (w : World) (B g a : Nat) (n : Int) (h : Cur w B g a) (ha : a ≤ 900000000) (hn : 1 ≤ n) (hn2 : n ≤ 60000) :
    Calls Tryd.prog 59 #[.pointer (some ⟨g, 0, none⟩), .int .i64 n] w (Drawn w B g (a + 2) fun x => 0 ≤ x ∧ x < n) := by
  obtain ⟨k, rfl⟩ := Int.eq_ofNat_of_zero_le (show 0 ≤ n by omega)
  exact pick_any w B g a k h ha (by omega) (by omega)
theorem oneI (w : World) (B g a : Nat) (n : Int) (h : Cur w B g a) (ha : a ≤ 900000000) (hn : 1 ≤ n) (hn2 : n ≤ 60000) :
    Calls Tryd.prog 38 #[.pointer (some ⟨g, 0, none⟩), .int .i64 n] w (DrawnB w B g (a + 2)) := by
  obtain ⟨k, rfl⟩ := Int.eq_ofNat_of_zero_le (show 0 ≤ n by omega)
  exact one_any w B g a k h ha (by omega) (by omega)
end Go.Proofs.YtfafnjlembbemaaDoor
