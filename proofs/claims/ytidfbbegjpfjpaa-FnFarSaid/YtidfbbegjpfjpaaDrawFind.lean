/- DrawFindPeriod and HeapValues: contracts; what a proved period says of 300 heaps. Conditions: none. -/
import Derived.Test.YtidfbbegjpfjpaaDrawCode
import Derived.Test.YtidfbbegjpfjpaaDrawRep
import Derived.Test.YtidfbbegjpfjpaaFind
namespace Go.Proofs.Ytidfbbegjpfjpaa
open Go.RowKit
set_option linter.unusedVariables false

/-- A new row of numbers and a number. -/
def NewRZ (w : World) (n : Nat) (e : Ending) (w' : World) : Prop :=
  ∃ (A : Option Addr) (c : Nat) (xs : List Int) (z : Int), e = .returned (.tuple #[.slice A xs.length c, .int .i64 z]) ∧ OwnI w' w.heap.size (.slice A xs.length c) xs ∧ Below w.heap.size w w' ∧ xs.length ≤ n
theorem among_take (w : World) (B g a : Nat) (h : Cur w B g a) (ha : a ≤ 800000000) (x y z u v s t : Int) (n L : Nat) (hL : Blk w L 3 #[.int .i64 x, .int .i64 y, .int .i64 z, .int .i64 u, .int .i64 v, .int .i64 s, .int .i64 t]) (hg : g < L) (hn1 : 1 ≤ n) (hn2 : n ≤ 7) :
    Calls Try.prog 32 #[.pointer (some ⟨g, 0, none⟩), .slice (some ⟨L, 0, none⟩) n 7] w (Drawn w B g (a + 2) fun _ => True) := by
  have hr : RdI w w.heap.size (some ⟨L, 0, none⟩) 7 [x, y, z, u, v, s, t] := Rd.lit3 (cs := [.int .i64 x, .int .i64 y, .int .i64 z, .int .i64 u, .int .i64 v, .int .i64 s, .int .i64 t]) hL hL.lt (by simp)
  have hr2 : RdI w w.heap.size (some ⟨L, 0, none⟩) 7 ([x, y, z, u, v, s, t].take n) := by
    have := Rd.take hr n
    unfold RdI
    rw [show ints ([x, y, z, u, v, s, t].take n) = (ints [x, y, z, u, v, s, t]).take n by simp [ints, List.map_take]]
    exact this
  have hlen : ([x, y, z, u, v, s, t].take n).length = n := by rw [List.length_take]; simp; omega
  have hh := among_any w B g a (some ⟨L, 0, none⟩) 7 ([x, y, z, u, v, s, t].take n) h (by omega) hr2 (fun b hb => by injection hb with hb; subst hb; show g + 1 ≤ L; omega) (by omega) (by omega)
  rw [hlen] at hh
  refine hh.mono ?_
  rintro e w' ⟨k, _, r⟩
  exact ⟨k, trivial, r⟩

/-- What a proved period says of all heaps. -/
theorem proved_on {cs : List Int} {p l : Int} (h : provedB cs p l = true) : goodCode cs ∧ goodPerB p l = true ∧ small255 (V cs 301) ∧ repB (nats (V cs 301)) p.toNat l.toNat = true := by
  rw [provedB, decide_eq_true_eq] at h
  obtain ⟨h1, h2, h3, h4⟩ := h
  obtain ⟨hg, hp, hn⟩ := needs_pos h1
  have hp' := hp
  simp [goodPerB] at hp'
  obtain ⟨p, rfl⟩ := Int.eq_ofNat_of_zero_le hp'.1
  obtain ⟨l, rfl⟩ := Int.eq_ofNat_of_zero_le (show 0 ≤ l by omega)
  have hnn : (needs cs (p : Int) (l : Int)).toNat = 2 * p + 2 * l + cs.length := by omega
  rw [hnn] at h3 h4
  rw [Int.toNat_natCast, Int.toNat_natCast] at h4 ⊢
  refine ⟨hg, hp, found_small (M := 300) (by omega) (by omega) h4 h3, ?_⟩
  refine repB_iff.2 fun j hj1 hj2 => ?_
  exact (found_per (M := 300) (by omega) (by omega) h4 j hj1 hj2).symm
theorem isPer_proved {cs : List Int} {M p l : Nat} (hM : M ≤ 300) (hg : goodCode cs) (h : isPer cs M l p) : provedB cs p l = true ∧ needs cs p l = 2 * p + 2 * l + cs.length ∧ (needs cs p l ≤ M) := by
  obtain ⟨h1, h2, h3, h4⟩ := h
  have hgp : goodPerB p l = true := by simp [goodPerB]; omega
  have hn : needs cs (p : Int) (l : Int) = 2 * p + 2 * l + cs.length := by
    unfold needs
    rw [if_pos ⟨goodCodeB_true.2 hg, hgp⟩]
  refine ⟨?_, hn, by omega⟩
  have hk := provedB_at (cs := cs) (p := p) (l := l) (2 * p + 2 * l + cs.length) (by rw [hn]; omega) (by omega)
  rw [hk, Int.toNat_natCast, Int.toNat_natCast, h3, small255B_true h4]
  rfl

/-- HeapValues at 300, where the values are all nimbers. -/
def HvGood (cs : List Int) (w : World) (e : Ending) (w' : World) : Prop :=
  ∃ (A : Option Addr) (c : Nat), e = .returned (.tuple #[.slice A 301 c, .bool true]) ∧ OwnI w' w.heap.size (.slice A 301 c) (nats (V cs 301)) ∧ Below w.heap.size w w'
def HvAny (w : World) (e : Ending) (w' : World) : Prop := ∃ (v : Value) (b : Bool), e = .returned (.tuple #[v, .bool b]) ∧ Below w.heap.size w w'
set_option maxHeartbeats 800000 in
theorem hv_good (A : Option Addr) (c : Nat) (cs : List Int) (w : World) (B : Nat) (hB : B ≤ w.heap.size) (h : RdI w B A c cs) (hg : goodCode cs) (hs : small255 (V cs 301)) :
    Calls Try.prog 18 #[.slice A cs.length c, .int .i64 300] w (HvGood cs w) := by
  have hG := fun W hh => goodCodeI_any A c cs W B hh
  rw [goodCodeB_true.2 hg] at hG
  have hV : ∀ W, B ≤ W.heap.size → RdI W B A c cs → Calls Try.prog 35 #[.slice A cs.length c, .int .i64 300] W (valsPost cs 300 W) := fun W hb hh => valuesI_any A c cs 300 W B hb hh (by omega) hg
  have HG := Lib.hid hG; have HV := Lib.hid hV; have HS := Lib.hid hs
  clear hG hV hs hg
  go_enter Try.func18, Try.ntmps18
  go_wp2_with fail
  ((with_reducible refine (HG.out _ h).mono ?_); rintro e w1 ⟨rfl, rfl⟩)
  go_wp2_with fail
  ((with_reducible refine (HV.out _ hB h).mono ?_); rintro e w2 ⟨hv, hb⟩)
  rcases hv with ⟨_, A2, c2, rfl, ho⟩ | ⟨hn, _⟩
  · have HO := Lib.hid ho; clear ho
    go_wp2
    go_ret2
    exact ⟨A2, c2, rfl, HO.out, hb⟩
  · exact absurd HS.out hn
set_option maxHeartbeats 800000 in
theorem hv_any (A : Option Addr) (c : Nat) (cs : List Int) (w : World) (B : Nat) (hB : B ≤ w.heap.size) (h : RdI w B A c cs) :
    Calls Try.prog 18 #[.slice A cs.length c, .int .i64 300] w (HvAny w) := by
  have hG := fun W hh => goodCodeI_any A c cs W B hh
  cases hg : goodCodeB cs
  · rw [hg] at hG
    have HG := Lib.hid hG
    clear hG hg
    go_enter Try.func18, Try.ntmps18
    go_wp2_with fail
    ((with_reducible refine (HG.out _ h).mono ?_); rintro e w1 ⟨rfl, rfl⟩)
    go_wp2
    go_ret2
    exact ⟨_, _, rfl, Below.refl _ _⟩
  · rw [hg] at hG
    have hV : ∀ W, B ≤ W.heap.size → RdI W B A c cs → Calls Try.prog 35 #[.slice A cs.length c, .int .i64 300] W (valsPost cs 300 W) := fun W hb hh => valuesI_any A c cs 300 W B hb hh (by omega) (goodCodeB_true.1 hg)
    have HG := Lib.hid hG; have HV := Lib.hid hV
    clear hG hV hg
    go_enter Try.func18, Try.ntmps18
    go_wp2_with fail
    ((with_reducible refine (HG.out _ h).mono ?_); rintro e w1 ⟨rfl, rfl⟩)
    go_wp2_with fail
    ((with_reducible refine (HV.out _ hB h).mono ?_); rintro e w2 ⟨hv, hb⟩)
    rcases hv with ⟨_, A2, c2, rfl, ho⟩ | ⟨hn, rfl⟩
    all_goals
      go_wp2
      go_ret2
      exact ⟨_, _, rfl, hb⟩
end Go.Proofs.Ytidfbbegjpfjpaa
