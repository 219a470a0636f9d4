/- StalkTree: contracts and the law. Conditions: none. -/
import Derived.Test.YtmdnbmdkommmkaaDoorRow1
import Derived.Test.YtmdnbmdkommmkaaDoorStalk
import Derived.Test.YtmdnbmdkommmkaaDoorBytes
import Derived.Test.YtmdnbmdkommmkaaDoorSl
import Derived.Test.YtmdnbmdkommmkaaDoorDy1
import Derived.Test.YtmdnbmdkommmkaaDoorMemAt
namespace Go.Proofs.YtmdnbmdkommmkaaDoor
open Go.RowKit
set_option linter.unusedVariables false

set_option maxHeartbeats 400000 in
theorem markCap_any (A : Option Addr) (c c' : Nat) (xs : List Int) (k : Int) (w : World) (lo : Nat) (h : Own w lo 3 (.slice A xs.length c) (ints xs)) (hk : 0 ≤ k) (hb : k + xs.length ≤ 1000000000000000) (hc1 : xs.length ≤ c') (hc2 : c' ≤ c) :
    Calls Tryd.prog 45 #[.slice A xs.length c', .int .i64 k] w fun e w' =>
      e = .returned (.int .i64 (k + xs.length)) ∧ Own w' lo 3 (.slice A xs.length c) (ints (numRow k xs.length)) ∧ w.grownBy w' (Value.slice A xs.length c).ownBlock := by
  have h1 := (RdI.len (show RdI w _ A c xs from h.rd))
  have h2 := (RdI.max (show RdI w _ A c xs from h.rd))
  go_enter Tryd.func45, Tryd.ntmps45
  go_wp2
  go_loopw [1, 5] (fun k' i wr => ∃ j : Nat, i = .int .i64 j ∧ k' = .int .i64 (k + j) ∧ j ≤ xs.length ∧ Own wr lo 3 (.slice A xs.length c) (ints (numRow k j ++ xs.drop j)) ∧ w.grownBy wr (Value.slice A xs.length c).ownBlock)
    (fun _ i _ => xs.length - (intOf i).toNat)
  case atStart => exact ⟨0, rfl, by simp, by omega, by simpa [numRow] using h, ⟨rfl, rfl, rfl, Nat.le_refl _, fun _ _ _ => rfl⟩⟩
  case round =>
    clear h
    obtain ⟨j, rfl, rfl, hj, ho, hg⟩ := hrel
    have hlen : (numRow k j ++ xs.drop j).length = xs.length := by rw [List.length_append, numRow_len, List.length_drop]; omega
    by_cases hlt : j < xs.length
    · obtain ⟨g, rfl, -, hlo, hgl, hc, hf⟩ := ho.at (by rw [ints_len, hlen]; omega)
      have hcj := hc j _ (ints_at _ j (by rw [hlen]; exact hlt))
      have hfj := hf j
      clear hc hf
      have ho' : wr.ownsRow lo 3 1 (.slice (some ⟨g, 0, none⟩) xs.length c) xs.length (ints (numRow k j ++ xs.drop j)) := by
        have := ho
        unfold Own at this
        rw [ints_len, hlen] at this
        exact this
      have hs := ho'.stored j (.int .i64 (k + j))
      rw [ints_set, numRow_step k xs j hlt] at hs
      obtain ⟨hs1, hs2⟩ := hs
      have hs3 : Own (wr.setCell ⟨g, j, none⟩ (.int .i64 (k + j))) lo 3 (.slice (some ⟨g, 0, none⟩) xs.length c) (ints (numRow k (j + 1) ++ xs.drop (j + 1))) := by
        unfold Own
        rw [ints_len, List.length_append, numRow_len, List.length_drop, show j + 1 + (xs.length - (j + 1)) = xs.length by omega]
        exact hs1
      have HS := Lib.hid hs3; clear hs1 hs3
      have HG2 := Lib.hid hs2; clear hs2
      have HG := Lib.hid hg; clear hg
      have HO := Lib.hid ho; clear ho ho' hlen
      go_wp2
      go_roundw
      case rel => exact ⟨j + 1, by go_num, by go_num, by omega, HS.out, HG.out.trans HG2.out⟩
      case measure => simp [intOf]; omega
    · obtain rfl : j = xs.length := by omega
      rw [List.drop_length, List.append_nil] at ho
      have HO := Lib.hid ho; clear ho
      go_wp2
      go_ret
      exact ⟨rfl, HO.out, hg⟩


theorem Own.sets2' {w : World} {base k : Nat} {E : TypeId} {v : Value} {cs : List Value} (h : Own w base E v cs) (hk : k < base) (i j : Nat) (a b : Value) : Own ((w.setCell ⟨k, i, none⟩ a).setCell ⟨k, j, none⟩ b) base E v cs :=
  have hne : v.ownBlock ≠ some k := fun e => by have := (h.lt k e).1; omega
  (h.far ⟨k, i, none⟩ a hne).far ⟨k, j, none⟩ b hne
theorem Rd.cap {w : World} {B c c' : Nat} {A : Option Addr} {cs : List Value} (h : Rd w B A c cs) (h1 : cs.length ≤ c') (h2 : c' ≤ c) : Rd w B A c' cs :=
  ⟨h1, by have := h.2.1; omega, fun hn => by have := h.2.2.1 hn; omega, h.2.2.2⟩
/-- The path's parents. -/
def upL (n : Nat) : List Int := (List.range n).map fun (i : Nat) => (i : Int) - 1
theorem upL_len (n : Nat) : (upL n).length = n := by simp [upL]
theorem upL_succ (n : Nat) : upL (n + 1) = upL n ++ [(n : Int) - 1] := by simp [upL, List.range_succ]

set_option maxHeartbeats 400000 in
theorem clip_any (A : Option Addr) (n c : Nat) (w : World) (h1 : n ≤ c) (h2 : c ≤ 9223372036854775807) (hA : A = none → c = 0) :
    Calls Tryd.prog 44 #[.slice A n c] w fun e w' => e = .returned (.slice A n n) ∧ w = w' := by
  cases A with
  | none =>
    obtain rfl : c = 0 := hA rfl
    obtain rfl : n = 0 := by omega
    go_enter Tryd.func44, Tryd.ntmps44
    go_wp2
    go_ret
    exact ⟨rfl, rfl⟩
  | some x =>
    clear hA
    have h3 : (n : Int) ≤ (c : Int) := by omega
    go_enter Tryd.func44, Tryd.ntmps44
    go_wp2
    go_ret
    exact ⟨rfl, rfl⟩

/-- What the program's StalkTree hands back. -/
def StkT (w : World) (xs : List Int) (s : ByteArray) (b : Bool) (e : Ending) (w' : World) : Prop :=
  ∃ A cap, e = .returned (.tuple #[.agg #[.slice A xs.length xs.length, .string s], .bool b]) ∧ Own w' w.heap.size 3 (.slice A xs.length cap) (ints xs) ∧ xs.length ≤ cap ∧ Below w.heap.size w w'

set_option maxRecDepth 100000 in
set_option maxHeartbeats 1600000 in
theorem stkTreeI_good (s : ByteArray) (w : World) (hs : s.size ≤ 8) (hb : allIn [76, 82] s = true) :
    Calls Tryd.prog 17 #[.string s] w (StkT w (upL s.size) s true) := by
  have hAM := fun W => areMarks_any s W (by unfold maxLen; omega)
  rw [hb] at hAM
  have HAM := Lib.hid hAM; clear hAM hb
  have hs8 : (s.size : Int) ≤ 8 := by omega
  go_enter Tryd.func17, Tryd.ntmps17
  go_wp2_with fail
  have hB := box1 w 35 #[.slice none 0 0, .string ⟨#[]⟩]
  generalize w.alloc (.cells #[.slice none 0 0, .string ⟨#[]⟩] 35) = W at *
  obtain ⟨b1, hbW, hzW⟩ := hB
  ((with_reducible refine (HAM.out _).mono ?_); rintro e w1 ⟨rfl, hb1⟩)
  have hz1 := hb1.size
  have b11 := b1.below hb1 (by omega)
  have h11 := hbW.trans (hb1.mono (by omega))
  have hE := Own.empty w1 3 3 w1.heap.size (Nat.le_refl _)
  have hbe := bel1 w1 (.cells #[] 3)
  have hw1 : w.heap.size < w1.heap.size := by omega
  clear b1 hbW hzW hb1 hz1
  go_wp2
  go_loopw [4, 18] (fun o i wr => ∃ (k : Nat) (A : Option Addr) (c : Nat), i = .int .i64 k ∧ k ≤ s.size ∧ o = .slice A k c ∧ Own wr w1.heap.size 3 (.slice A k c) (ints (upL k)) ∧ Below w1.heap.size w1 wr) (fun _ i _ => s.size - (intOf i).toNat)
  case atStart => exact ⟨0, _, _, rfl, by omega, rfl, hE, hbe⟩
  case round =>
    clear hE hbe
    obtain ⟨k, A, c, rfl, hk, rfl, ho, hb⟩ := hrel
    have hzr := hb.size
    by_cases hlt : k < s.size
    · have hkI : (k : Int) < (s.size : Int) := by omega
      have HK : Hid ((upL k).length = k) := upL_len k
      have HE : Hid (upL k ++ [(k : Int) - 1] = upL (k + 1)) := (upL_succ k).symm
      go_wp2_with (at_builtin; refine append_int_at rfl _ _ rfl w1.heap.size _ (upL k) rfl (own_ints.2 (ho.below (bel1 _ _))) _ ((k : Int) - 1) rfl (Blk.new _ _ _) (by rw [HK.out]; omega) (by simp; omega) ?_; intro A5 c5 w5 ho5 hb5 hg5 hp5; rw [HK.out, HE.out] at ho5; rw [HK.out])
      have HO : Hid (Own w5 w1.heap.size 3 (.slice A5 (k + 1) c5) (ints (upL (k + 1)))) := own_ints.1 ho5
      clear ho5 hp5
      have hbb : Below w1.heap.size w1 w5 := hb.trans (((Below.refl w1.heap.size wr).alloc (by omega) _).trans hb5)
      go_roundw
      case rel => exact ⟨k + 1, A5, c5, by go_num, by omega, rfl, HO.out, hbb⟩
      case measure => simp [intOf]; omega
    · obtain rfl : k = s.size := by omega
      have hcap := ho.rd.len
      rw [ints_len, upL_len] at hcap
      have hmax := ho.rd.max
      have hnn := ho.rd.2.2.1
      have HO := Lib.hid ho; clear ho
      have b12 := b11.below hb hw1
      have r0 : wr.cell? ⟨w.heap.size, 0, none⟩ = some (.slice none 0 0) := b12.cell 0
      have r1 : wr.cell? ⟨w.heap.size, 1, none⟩ = some (.string ⟨#[]⟩) := b12.cell 1
      have rf0 : wr.frozen? ⟨w.heap.size, 0, none⟩ = false := b12.frozen 0
      have rf1 : wr.frozen? ⟨w.heap.size, 1, none⟩ = false := b12.frozen 1
      have HNN : Hid (A = none → c = 0) := hnn
      clear hnn hlt hk
      go_wp2_with fail
      ((with_reducible refine (clip_any _ _ _ _ hcap hmax HNN.out).mono ?_); rintro e w3 ⟨rfl, rfl⟩)
      have hgg : Below w.heap.size w wr := h11.trans (hb.mono (by omega))
      have HU : Hid ((upL s.size).length = s.size) := upL_len _
      go_wp2
      refine bodyPost_ret (v := .tuple #[.agg #[.slice A s.size s.size, .string s], .bool true]) (by simp [results, Tryd.results17, go_sem, r0, r1]) rfl ⟨A, c, by rw [HU.out], ?_, by rw [HU.out]; exact hcap, ?_⟩
      · rw [HU.out]
        exact ((HO.out.sets2' (by omega) _ _ _ _)).le (by omega)
      · exact (hgg.setCell (by simp) _).setCell (by simp) _

set_option maxRecDepth 100000 in
set_option maxHeartbeats 1600000 in
theorem stkTreeI_bad (s : ByteArray) (w : World) (hm : s.size ≤ maxLen) (hb : signsB s 8 = false) :
    Calls Tryd.prog 17 #[.string s] w (StkT w [] ⟨#[]⟩ false) := by
  have hAM := fun W => areMarks_any s W hm
  unfold maxLen at hm
  unfold signsB at hb
  by_cases h8 : (s.size : Int) ≤ 8
  · have ha : allIn [76, 82] s = false := by simpa [h8] using hb
    rw [ha] at hAM
    have HAM := Lib.hid hAM; clear hAM hb ha
    go_enter Tryd.func17, Tryd.ntmps17
    go_wp2_with fail
    have hB := box1 w 35 #[.slice none 0 0, .string ⟨#[]⟩]
    generalize w.alloc (.cells #[.slice none 0 0, .string ⟨#[]⟩] 35) = W at *
    obtain ⟨b1, hbW, hzW⟩ := hB
    ((with_reducible refine (HAM.out _).mono ?_); rintro e w1 ⟨rfl, hb1⟩)
    have b11 := b1.below hb1 (by omega)
    have h11 := hbW.trans (hb1.mono (by omega))
    have r0 : w1.cell? ⟨w.heap.size, 0, none⟩ = some (.slice none 0 0) := b11.cell 0
    have r1 : w1.cell? ⟨w.heap.size, 1, none⟩ = some (.string ⟨#[]⟩) := b11.cell 1
    have rf0 : w1.frozen? ⟨w.heap.size, 0, none⟩ = false := b11.frozen 0
    have rf1 : w1.frozen? ⟨w.heap.size, 1, none⟩ = false := b11.frozen 1
    clear hzW
    go_wp2
    refine bodyPost_ret (v := .tuple #[.agg #[.slice none 0 0, .string ⟨#[]⟩], .bool false]) (by simp [results, Tryd.results17, go_sem, r0, r1]) rfl ⟨none, 0, rfl, World.ownsRow_nil _ _ _ 1, by simp, ?_⟩
    exact (h11.setCell (by simp) _).setCell (by simp) _
  · clear hAM hb
    go_enter Tryd.func17, Tryd.ntmps17
    go_wp2
    refine bodyPost_ret (v := .tuple #[.agg #[.slice none 0 0, .string ⟨#[]⟩], .bool false]) (by simp [results, Tryd.results17, go_sem]) rfl ⟨none, 0, rfl, World.ownsRow_nil _ _ _ 1, by simp, ?_⟩
    (repeat (first | exact Below.refl _ _ | refine Below.setCell ?_ (by simp) _ | refine Below.alloc ?_ (by first | exact Nat.le_refl _ | (simp; done) | (simp; omega)) _ | refine bdrew ?_ _))

/-- What the reference's StalkTree hands back. -/
def StkS (w : World) (xs : List Int) (s : ByteArray) (b : Bool) (e : Ending) (w' : World) : Prop :=
  ∃ A c, e = .returned (.tuple #[.agg #[.slice A xs.length c, .string s], .bool b]) ∧ RdI w' w'.heap.size A c xs ∧ Below w.heap.size w w'

set_option maxRecDepth 100000 in
set_option maxHeartbeats 1600000 in
theorem stkTreeS_good (s : ByteArray) (w : World) (hs : s.size ≤ 8) (hb : allIn [76, 82] s = true) :
    Calls Tryd.prog 16 #[.string s] w (StkS w (upL s.size) s true) := by
  have hSG := fun W => signsS_any s 8 W (by unfold maxLen; omega)
  have hsg : signsB s 8 = true := by unfold signsB; rw [hb]; simp; omega
  rw [hsg] at hSG
  have HSG := Lib.hid hSG; clear hSG hsg hb
  go_enter Tryd.func16, Tryd.ntmps16
  go_wp2_with fail
  have hB := box1 w 35 #[.slice none 0 0, .string ⟨#[]⟩]
  generalize w.alloc (.cells #[.slice none 0 0, .string ⟨#[]⟩] 35) = W at *
  obtain ⟨b1, hbW, hzW⟩ := hB
  ((with_reducible refine (HSG.out _).mono ?_); rintro e w1 ⟨rfl, rfl⟩)
  have hT := Blk.new W 35 #[.slice none 0 0, .string s]
  have hbT := bel1 W (.cells #[.slice none 0 0, .string s] 35)
  have hzT : (W.alloc (.cells #[.slice none 0 0, .string s] 35)).heap.size = W.heap.size + 1 := by simp
  have b11 := b1.below hbT (by omega)
  have h11 := hbW.trans (hbT.mono (by omega))
  have hWlt : w.heap.size < W.heap.size := by omega
  have HZ := Lib.hid hzW; clear hzW b1 hbW hbT
  go_wp2
  generalize W.alloc (.cells #[.slice none 0 0, .string s] 35) = V at *
  obtain ⟨T4, hT4⟩ : ∃ T4, T4 = W.heap.size := ⟨_, rfl⟩
  have hT4' : w.heap.size + 1 = T4 := by have := HZ.out; omega
  first | rw [← hT4] | rw [hT4']
  rw [← hT4] at hT hzT hWlt
  clear hT4 hT4'
  go_loopw [5] (fun i wr => ∃ (k : Nat) (A : Option Addr) (c : Nat), i = .int .i64 k ∧ k ≤ s.size ∧ Blk wr T4 35 #[.slice A k c, .string s] ∧ Own wr V.heap.size 3 (.slice A k c) (ints (upL k)) ∧ Blk wr w.heap.size 35 #[.slice none 0 0, .string ⟨#[]⟩] ∧ Below w.heap.size w wr ∧ V.heap.size ≤ wr.heap.size) (fun i _ => s.size - (intOf i).toNat)
  case atStart => exact ⟨0, none, 0, rfl, by omega, hT, World.ownsRow_nil _ _ _ 1, b11, h11, Nat.le_refl _⟩
  case round =>
    clear hT b11 h11
    obtain ⟨k, A, c, rfl, hk, hT, ho, b1, hb, hvz⟩ := hrel
    have t0 : wr.cell? ⟨T4, 0, none⟩ = some (.slice A k c) := hT.cell 0
    have t1 : wr.cell? ⟨T4, 1, none⟩ = some (.string s) := hT.cell 1
    have tf0 : wr.frozen? ⟨T4, 0, none⟩ = false := hT.frozen 0
    by_cases hlt : k < s.size
    · have hkI : (k : Int) < (s.size : Int) := by omega
      have HK : Hid ((upL k).length = k) := upL_len k
      have HE : Hid (upL k ++ [(k : Int) - 1] = upL (k + 1)) := (upL_succ k).symm
      go_wp2_with (at_builtin; refine append_int_at rfl _ _ rfl V.heap.size _ (upL k) rfl (own_ints.2 (ho.below (bel1 _ _))) _ ((k : Int) - 1) rfl (Blk.new _ _ _) (by rw [HK.out]; omega) (by simp; omega) ?_; intro A5 c5 w5 ho5 hb5 hg5 hp5; rw [HK.out, HE.out] at ho5; rw [HK.out]; have hbb : Below V.heap.size wr w5 := ((Below.refl V.heap.size wr).alloc (by omega) _).trans hb5; have hT5 := hT.below hbb (by omega); have q0 : w5.cell? ⟨T4, 0, none⟩ = some (.slice A k c) := hT5.cell 0; have qf0 : w5.frozen? ⟨T4, 0, none⟩ = false := hT5.frozen 0)
      have HO : Hid (Own w5 V.heap.size 3 (.slice A5 (k + 1) c5) (ints (upL (k + 1)))) := own_ints.1 ho5
      have b15 := b1.below hbb (by omega)
      have hbw : Below w.heap.size w w5 := hb.trans (hbb.mono (by omega))
      have hz5 := hbb.size
      clear ho5 hp5
      go_roundw
      case rel => exact ⟨k + 1, A5, c5, by go_num, by omega, hT5.set 0 _, HO.out.far ⟨T4, 0, none⟩ _ (fun e => by have := (HO.out.lt T4 e).1; omega), b15.far (p := ⟨T4, 0, none⟩) (by show w.heap.size ≠ T4; omega) _, hbw.setCell (p := ⟨T4, 0, none⟩) (by show w.heap.size ≤ T4; omega) _, by simp; omega⟩
      case measure => simp [intOf]; omega
    · obtain rfl : k = s.size := by omega
      have r0 : wr.cell? ⟨w.heap.size, 0, none⟩ = some (.slice none 0 0) := b1.cell 0
      have r1 : wr.cell? ⟨w.heap.size, 1, none⟩ = some (.string ⟨#[]⟩) := b1.cell 1
      have rf0 : wr.frozen? ⟨w.heap.size, 0, none⟩ = false := b1.frozen 0
      have rf1 : wr.frozen? ⟨w.heap.size, 1, none⟩ = false := b1.frozen 1
      have hne : ¬ T4 = w.heap.size := by omega
      have HU : Hid ((upL s.size).length = s.size) := upL_len _
      have HO := Lib.hid ho; clear ho hlt hk
      go_wp2
      refine bodyPost_ret (v := .tuple #[.agg #[.slice A s.size c, .string s], .bool true]) (by simp [results, Tryd.results16, go_sem, r0, r1]) rfl ⟨A, c, by rw [HU.out], ?_, ?_⟩
      · exact (HO.out.sets2' (k := w.heap.size) (by omega) 0 1 (.slice A s.size c) (.string s)).rd
      · exact (hb.setCell (by simp) _).setCell (by simp) _

set_option maxRecDepth 100000 in
set_option maxHeartbeats 1600000 in
theorem stkTreeS_bad (s : ByteArray) (w : World) (hm : s.size ≤ maxLen) (hb : signsB s 8 = false) :
    Calls Tryd.prog 16 #[.string s] w (StkS w [] ⟨#[]⟩ false) := by
  have hSG := fun W => signsS_any s 8 W hm
  rw [hb] at hSG
  have HSG := Lib.hid hSG; clear hSG hb
  go_enter Tryd.func16, Tryd.ntmps16
  go_wp2_with fail
  have hB := box1 w 35 #[.slice none 0 0, .string ⟨#[]⟩]
  generalize w.alloc (.cells #[.slice none 0 0, .string ⟨#[]⟩] 35) = W at *
  obtain ⟨b1, hbW, hzW⟩ := hB
  ((with_reducible refine (HSG.out _).mono ?_); rintro e w1 ⟨rfl, rfl⟩)
  have r0 : W.cell? ⟨w.heap.size, 0, none⟩ = some (.slice none 0 0) := b1.cell 0
  have r1 : W.cell? ⟨w.heap.size, 1, none⟩ = some (.string ⟨#[]⟩) := b1.cell 1
  have rf0 : W.frozen? ⟨w.heap.size, 0, none⟩ = false := b1.frozen 0
  have rf1 : W.frozen? ⟨w.heap.size, 1, none⟩ = false := b1.frozen 1
  clear hzW
  go_wp2
  refine bodyPost_ret (v := .tuple #[.agg #[.slice none 0 0, .string ⟨#[]⟩], .bool false]) (by simp [results, Tryd.results16, go_sem, r0, r1]) rfl ⟨none, 0, rfl, Rd.nil, ?_⟩
  exact (hbW.setCell (by simp) _).setCell (by simp) _

theorem stk_ex (s : ByteArray) (hm : s.size ≤ maxLen) : ∃ (xs : List Int) (t : ByteArray) (b : Bool), xs.length ≤ 8 ∧ (∀ w, Calls Tryd.prog 17 #[.string s] w (StkT w xs t b)) ∧ (∀ w, Calls Tryd.prog 16 #[.string s] w (StkS w xs t b)) := by
  cases hb : signsB s 8
  · exact ⟨[], ⟨#[]⟩, false, by simp, fun w => stkTreeI_bad s w hm hb, fun w => stkTreeS_bad s w hm hb⟩
  · have hb' := hb
    unfold signsB at hb'
    simp only [Bool.and_eq_true, decide_eq_true_eq] at hb'
    exact ⟨upL s.size, s, true, by rw [upL_len]; omega, fun w => stkTreeI_good s w (by omega) hb'.1, fun w => stkTreeS_good s w (by omega) hb'.1⟩

set_option maxHeartbeats 400000 in
theorem eqTree_ok (A A' : Option Addr) (c c' : Nat) (xs : List Int) (s : ByteArray) (w : World) (B : Nat) (hB : B ≤ w.heap.size) (h : RdI w B A c xs) (h' : RdI w B A' c' xs) :
    Calls Tryd.prog 18 #[.agg #[.slice A xs.length c, .string s], .agg #[.slice A' xs.length c', .string s]] w fun e w' => e = .returned (.bool true) ∧ Below w.heap.size w w' := by
  go_enter Tryd.func18, Tryd.ntmps18
  go_wp2_with fail
  have hB2 := box2 w 35 35 #[.slice A xs.length c, .string s] #[.slice A' xs.length c', .string s]
  generalize (w.alloc (.cells #[.slice A xs.length c, .string s] 35)).alloc (.cells #[.slice A' xs.length c', .string s] 35) = W at *
  obtain ⟨b1, b2, hbW, hzW⟩ := hB2
  ((with_reducible refine (eqIntS_any _ _ _ _ _ _ _ B (by omega) (h.below hbW hB) (h'.below hbW hB)).mono ?_); rintro e w1 ⟨rfl, hb1⟩)
  have b11 := b1.below hb1 (by omega)
  have b21 := b2.below hb1 (by omega)
  have p1 : w1.cell? ⟨w.heap.size, 1, none⟩ = some (.string s) := b11.cell 1
  have q1 : w1.cell? ⟨w.heap.size + 1, 1, none⟩ = some (.string s) := b21.cell 1
  have hgg := hbW.trans (hb1.mono (by omega))
  clear hzW
  go_wp2
  go_ret
  exact ⟨rfl, hgg⟩

set_option maxHeartbeats 400000 in
theorem markTree_any (A : Option Addr) (c : Nat) (xs : List Int) (s : ByteArray) (w : World) (lo : Nat) (h : Own w lo 3 (.slice A xs.length c) (ints xs)) (hl : xs.length ≤ 1000000) (hc : xs.length ≤ c) :
    Calls Tryd.prog 19 #[.agg #[.slice A xs.length xs.length, .string s], .int .i64 1] w fun e w' => e = .returned (.int .i64 (1 + xs.length)) ∧ Own w' lo 3 (.slice A xs.length c) (ints (numRow 1 xs.length)) ∧ w.grownBy w' (Value.slice A xs.length c).ownBlock := by
  go_enter Tryd.func19, Tryd.ntmps19
  go_wp2_with fail
  have hbW := bel1 w (.cells #[.slice A xs.length xs.length, .string s] 35)
  have hgW : w.grownBy (w.alloc (.cells #[.slice A xs.length xs.length, .string s] 35)) (Value.slice A xs.length c).ownBlock := ⟨hbW.os, hbW.tape, hbW.output, hbW.size, fun k hk _ => hbW.block k hk⟩
  generalize w.alloc (.cells #[.slice A xs.length xs.length, .string s] 35) = W at *
  ((with_reducible refine (markCap_any _ _ _ _ _ _ _ (h.below hbW) (by decide) (by omega) (Nat.le_refl _) hc).mono ?_); rintro e w1 ⟨rfl, ho1, hg1⟩)
  have HO := Lib.hid ho1
  have hg2 := hgW.trans hg1
  clear ho1
  go_wp2
  go_ret
  exact ⟨rfl, HO.out, hg2⟩

set_option maxHeartbeats 400000 in
theorem heldTree_any (A : Option Addr) (n : Nat) (s : ByteArray) (w : World) (B : Nat) (hB : B ≤ w.heap.size) (h : RdI w B A n (numRow 1 n)) (hl : n ≤ 1000000) :
    Calls Tryd.prog 20 #[.agg #[.slice A n n, .string s], .int .i64 1] w fun e w' => e = .returned (.int .i64 (1 + n)) ∧ Below w.heap.size w w' := by
  go_enter Tryd.func20, Tryd.ntmps20
  go_wp2_with fail
  have hbW := bel1 w (.cells #[.slice A n n, .string s] 35)
  generalize w.alloc (.cells #[.slice A n n, .string s] 35) = W at *
  ((with_reducible refine (heldRow_any _ _ _ _ _ _ (h.below hbW hB) (by decide) (by omega)).mono ?_); rintro e w1 ⟨rfl, rfl⟩)
  go_wp2
  go_ret
  exact ⟨rfl, hbW⟩
end Go.Proofs.YtmdnbmdkommmkaaDoor
