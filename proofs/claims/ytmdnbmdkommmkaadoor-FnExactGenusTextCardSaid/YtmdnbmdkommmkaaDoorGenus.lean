/- GenusText, by the reference and by the program: contracts. Conditions: none. -/
import Derived.Test.YtmdnbmdkommmkaaDoorItoa
import Derived.Test.YtmdnbmdkommmkaaDoorSl
import Derived.Test.YtmdnbmdkommmkaaDoorShelfJ
import Derived.Shelf.Strings.OnBuilder
import Derived.Deep.RegionHeld3
namespace Go.Proofs.YtmdnbmdkommmkaaDoor
open Go.RowKit
set_option linter.unusedVariables false

/-- The text of a small number. -/
def dS (n : Int) : ByteArray := str (Lib.decDigits n.toNat)
def nimB (x : Int) : Bool := inB x 0 255
def nimsB (xs : List Int) : Bool := decide (∀ i, i < xs.length → nimB (gi xs i) = true)
theorem nimB_nat (x : Int) (h : nimB x = true) : ∃ n : Nat, x = n ∧ n ≤ 255 := by
  unfold nimB inB at h
  simp at h
  exact ⟨x.toNat, by omega, by omega⟩
theorem dS_len (x : Int) (h : nimB x = true) : (Lib.decDigits x.toNat).length ≤ 10 := by
  obtain ⟨n, rfl, hn⟩ := nimB_nat x h
  exact decDigits_len _ (by rw [Int.toNat_natCast]; omega)
theorem num_nim (x : Int) (h : nimB x = true) (W : World) : Calls Tryd.prog 36 #[.int .i64 x] W fun e w' => e = .returned (.string (dS x)) ∧ ∃ m, w' = W.drewN m := by
  obtain ⟨n, rfl, hn⟩ := nimB_nat x h
  unfold dS
  rw [Int.toNat_natCast]
  exact l1Num_any n W (by omega)
theorem itoa_nim (x : Int) (h : nimB x = true) (W : World) (ht : TabI W) : Calls Tryd.prog 38 #[.int .i64 x] W fun e w' => e = .returned (.string (dS x)) ∧ Below W.heap.size W w' := by
  obtain ⟨n, rfl, hn⟩ := nimB_nat x h
  unfold dS
  rw [Int.toNat_natCast]
  exact itoa_any n W (by omega) ht
theorem isNim_any (x : Int) (w : World) :
    Calls Tryd.prog 40 #[.int .i64 x] w fun e w' => e = .returned (.bool (nimB x)) ∧ w = w' := by
  go_enter Tryd.func40, Tryd.ntmps40
  go_wp2
  all_goals
    go_ret
    exact ⟨ret_bool (by unfold nimB inB; rw [Bool.eq_iff_iff]; simp; try omega), rfl⟩
theorem nim16_any (x : Int) (w : World) :
    Calls Tryd.prog 61 #[.int .i64 x] w fun e w' => e = .returned (.bool (nimB x)) ∧ w = w' := by
  go_enter Tryd.func61, Tryd.ntmps61
  go_wp2_with (go_at_call 59; refine (l1In_any _ _ _ _).mono ?_; rintro e w' ⟨rfl, rfl⟩)
  go_ret
  exact ⟨rfl, rfl⟩

set_option maxHeartbeats 400000 in
theorem nimsZ_any (A : Option Addr) (c : Nat) (v : List Int) (w : World) (B : Nat) (h : RdI w B A c v) :
    Calls Tryd.prog 39 #[.slice A v.length c] w fun e w' => e = .returned (.bool (nimsB v)) ∧ w = w' := by
  have h1 := h.len
  have h2 := h.max
  go_enter Tryd.func39, Tryd.ntmps39
  go_wp2
  go_loop [3] (fun i => ∃ k : Nat, i = .int .i64 k ∧ k ≤ v.length ∧ ∀ j, j < k → nimB (gi v j) = true) (fun i => v.length - (intOf i).toNat)
  case atStart => exact ⟨0, rfl, by omega, fun j hj => absurd hj (by omega)⟩
  case round =>
    obtain ⟨k, rfl, hk, hs⟩ := hrel
    have HS := Lib.hid hs; clear hs
    by_cases hlt : k < v.length
    · obtain ⟨b, o, rfl, hbB, hc⟩ := h.at (j := k) hlt
      have hc1 := hc k hlt
      clear hc
      by_cases hd : nimB (gi v k) = true
      · have HD := Lib.hid hd
        go_wp2_with (go_at_call 61; refine (nim16_any _ _).mono ?_; rintro e w' ⟨rfl, rfl⟩)
        go_round
        case rel => exact ⟨k + 1, by go_num, by omega, fun j hj => if hjk : j = k then by subst hjk; exact HD.out else HS.out j (by omega)⟩
        case measure => simp [intOf]; omega
      · have HD : Hid (¬ nimB (gi v k) = true) := hd
        have hd' : nimB (gi v k) = false := by simpa using hd
        clear hd
        go_wp2_with (go_at_call 61; refine (nim16_any _ _).mono ?_; rintro e w' ⟨rfl, rfl⟩)
        go_ret
        refine ⟨ret_bool ?_, rfl⟩
        rw [Bool.false_eq, nimsB, decide_eq_false_iff_not]
        exact fun hg => HD.out (hg k hlt)
    · go_wp2
      go_ret
      refine ⟨ret_bool ?_, rfl⟩
      rw [Bool.true_eq, nimsB, decide_eq_true_eq]
      exact fun i hi => HS.out i (by omega)

/-- One sum of short texts. -/
theorem add_l (a b c : List UInt8) (bb : ByteArray) (hb : bb = str b) (h : a ++ b = c) (hl : c.length ≤ 1000) (W : World) : (Op.stringOp .add (str a) bb).run Tryd.prog W = .ok (.string (str c)) W := by
  subst hb
  have hl2 : a.length + b.length ≤ 1000 := by rw [← List.length_append, h]; exact hl
  have h0 := run_string_add_sum (P := Tryd.prog) (w := W) (str a) (str b) (by rw [str_size, str_size]; omega)
  rw [h0, str_of (str a ++ str b) (l := c) (by rw [data_append, str_data, str_data, h])]

def gL (xs : List Int) (i : Nat) : List UInt8 := Lib.decDigits (gi xs i).toNat
def gT (xs : List Int) : ByteArray := str (gL xs 0 ++ [94] ++ gL xs 1 ++ [46] ++ gL xs 2 ++ [46] ++ gL xs 3 ++ [46] ++ gL xs 4)
def genV (xs : List Int) : ByteArray × Bool := if xs.length = 5 ∧ nimsB xs = true then (gT xs, true) else (ByteArray.empty, false)

set_option maxRecDepth 100000 in
set_option maxHeartbeats 1600000 in
theorem genusS_good (A : Option Addr) (c : Nat) (xs : List Int) (w : World) (B : Nat) (h : RdI w B A c xs) (h5 : xs.length = 5) (hn : nimsB xs = true) :
    Calls Tryd.prog 12 #[.slice A xs.length c] w fun e w' => e = .returned (.tuple #[.string (gT xs), .bool true]) ∧ Below w.heap.size w w' := by
  have h1 := h.len
  have h2 := h.max
  have hN := nimsZ_any A c xs w B h
  rw [hn] at hN
  have hn' := hn
  rw [nimsB, decide_eq_true_eq] at hn'
  have n0 := hn' 0 (by omega)
  have n1 := hn' 1 (by omega)
  have n2 := hn' 2 (by omega)
  have n3 := hn' 3 (by omega)
  have n4 := hn' 4 (by omega)
  have l0 := dS_len _ n0
  have l1 := dS_len _ n1
  have l2 := dS_len _ n2
  have l3 := dS_len _ n3
  have l4 := dS_len _ n4
  have e0 := fun W => num_nim _ n0 W
  have e1 := fun W => num_nim _ n1 W
  have e2 := fun W => num_nim _ n2 W
  have e3 := fun W => num_nim _ n3 W
  have e4 := fun W => num_nim _ n4 W
  unfold gT gL
  unfold dS at e0 e1 e2 e3 e4
  obtain ⟨b, o, rfl, hbB, hc⟩ := h.at (j := 0) (by omega)
  have c0 : w.cell? ⟨b, o, none⟩ = some (.int .i64 (gi xs 0)) := hc 0 (by omega)
  have c1 := hc 1 (by omega)
  have c2 := hc 2 (by omega)
  have c3 := hc 3 (by omega)
  have c4 := hc 4 (by omega)
  clear hc h hn' hn n0 n1 n2 n3 n4
  rw [h5] at hN h1 ⊢
  clear h5
  generalize gi xs 0 = x0 at *
  generalize gi xs 1 = x1 at *
  generalize gi xs 2 = x2 at *
  generalize gi xs 3 = x3 at *
  generalize gi xs 4 = x4 at *
  generalize Lib.decDigits x0.toNat = d0 at *
  generalize Lib.decDigits x1.toNat = d1 at *
  generalize Lib.decDigits x2.toNat = d2 at *
  generalize Lib.decDigits x3.toNat = d3 at *
  generalize Lib.decDigits x4.toNat = d4 at *
  have a1 := fun W => add_l d0 [94] (d0 ++ [94]) ⟨#[94]⟩ rfl rfl (by simp; omega) W
  have a2 := fun W => add_l (d0 ++ [94]) d1 (d0 ++ [94] ++ d1) (str d1) rfl rfl (by simp; omega) W
  have a3 := fun W => add_l (d0 ++ [94] ++ d1) [46] (d0 ++ [94] ++ d1 ++ [46]) ⟨#[46]⟩ rfl rfl (by simp; omega) W
  have a4 := fun W => add_l (d0 ++ [94] ++ d1 ++ [46]) d2 (d0 ++ [94] ++ d1 ++ [46] ++ d2) (str d2) rfl rfl (by simp; omega) W
  have a5 := fun W => add_l (d0 ++ [94] ++ d1 ++ [46] ++ d2) [46] (d0 ++ [94] ++ d1 ++ [46] ++ d2 ++ [46]) ⟨#[46]⟩ rfl rfl (by simp; omega) W
  have a6 := fun W => add_l (d0 ++ [94] ++ d1 ++ [46] ++ d2 ++ [46]) d3 (d0 ++ [94] ++ d1 ++ [46] ++ d2 ++ [46] ++ d3) (str d3) rfl rfl (by simp; omega) W
  have a7 := fun W => add_l (d0 ++ [94] ++ d1 ++ [46] ++ d2 ++ [46] ++ d3) [46] (d0 ++ [94] ++ d1 ++ [46] ++ d2 ++ [46] ++ d3 ++ [46]) ⟨#[46]⟩ rfl rfl (by simp; omega) W
  have a8 := fun W => add_l (d0 ++ [94] ++ d1 ++ [46] ++ d2 ++ [46] ++ d3 ++ [46]) d4 (d0 ++ [94] ++ d1 ++ [46] ++ d2 ++ [46] ++ d3 ++ [46] ++ d4) (str d4) rfl rfl (by simp; omega) W
  generalize str (d0 ++ [94] ++ d1 ++ [46] ++ d2 ++ [46] ++ d3 ++ [46] ++ d4) = t8 at *
  generalize str (d0 ++ [94] ++ d1 ++ [46] ++ d2 ++ [46] ++ d3 ++ [46]) = t7 at *
  generalize str (d0 ++ [94] ++ d1 ++ [46] ++ d2 ++ [46] ++ d3) = t6 at *
  generalize str (d0 ++ [94] ++ d1 ++ [46] ++ d2 ++ [46]) = t5 at *
  generalize str (d0 ++ [94] ++ d1 ++ [46] ++ d2) = t4 at *
  generalize str (d0 ++ [94] ++ d1 ++ [46]) = t3 at *
  generalize str (d0 ++ [94] ++ d1) = t2 at *
  generalize str (d0 ++ [94]) = t1 at *
  generalize str d0 = s0 at *
  generalize str d1 = s1 at *
  generalize str d2 = s2 at *
  generalize str d3 = s3 at *
  generalize str d4 = s4 at *
  have E0 := Lib.hid e0; have E1 := Lib.hid e1; have E2 := Lib.hid e2; have E3 := Lib.hid e3; have E4 := Lib.hid e4
  have HN := Lib.hid hN
  clear e0 e1 e2 e3 e4 l0 l1 l2 l3 l4 hN
  go_enter Tryd.func12, Tryd.ntmps12
  go_wp2_with fail
  ((with_reducible refine HN.out.mono ?_); rintro e w1 ⟨rfl, rfl⟩)
  go_wp2
  go_quiet (first
    | (go_at_call 36; (with_reducible exact Calls.quiet_of (E0.out _)))
    | (go_at_call 36; (with_reducible exact Calls.quiet_of (E1.out _)))
    | (go_at_call 36; (with_reducible exact Calls.quiet_of (E2.out _)))
    | (go_at_call 36; (with_reducible exact Calls.quiet_of (E3.out _)))
    | (go_at_call 36; (with_reducible exact Calls.quiet_of (E4.out _))))
  go_wp2
  go_ret2
  exact ⟨rfl, bdrew (Below.refl _ _) _⟩

/-- The words of the first k numbers. -/
def gW (xs : List Int) (k : Nat) : List ByteArray := (List.range k).map fun i => dS (gi xs i)
theorem gW_len (xs : List Int) (k : Nat) : (gW xs k).length = k := by simp [gW]
theorem gW_succ (xs : List Int) (k : Nat) : gW xs (k + 1) = gW xs k ++ [dS (gi xs k)] := by simp [gW, List.range_succ]
theorem gW_at (xs : List Int) (k i : Nat) (h : i < k) : (gW xs k)[i]? = some (dS (gi xs i)) := by simp [gW, h]

theorem builderX : Builder.Extra Tryd.prog Tryd.lays156_ren where
  sizeBuilder := by kernel_rfl
  liesBuilder := by kernel_rfl
  t5 := Tryd.underlying5
  a5 := Tryd.isAgg5
  z5 := Tryd.sizeOf5
  v5 := Tryd.zeroValue5
  infoByte := by kernel_rfl
  cellsByte := by kernel_rfl
  sizeByte := by kernel_rfl
  neB5 := by decide

/-- The program's GenusText at five numbers of which the first that is no nimber ends it. -/
def genI (xs : List Int) : Value := if nimsB xs = true then .tuple #[.string (gT xs), .bool true] else .tuple #[.string ByteArray.empty, .bool false]

set_option maxRecDepth 100000 in
set_option maxHeartbeats 1600000 in
theorem genusI_five (A : Option Addr) (c : Nat) (xs : List Int) (w : World) (B : Nat) (hB : B ≤ w.heap.size) (h : RdI w B A c xs) (h5 : xs.length = 5) (ht : TabI w) :
    Calls Tryd.prog 14 #[.slice A xs.length c] w fun e w' => e = .returned (genI xs) ∧ Below w.heap.size w w' := by
  have h1 := h.len
  have h2 := h.max
  have hl5 : (xs.length : Int) = 5 := by omega
  have H5 := Lib.hid h5
  go_enter Tryd.func14, Tryd.ntmps14
  rw [h5]
  clear hl5
  go_wp2
  go_loopw [4, 13] (fun v i wr => ∃ (k : Nat) (A4 : Option Addr) (c4 : Nat), i = .int .i64 k ∧ k ≤ 5 ∧ v = .slice A4 k c4 ∧ Own wr w.heap.size 9 (.slice A4 k c4) (scells (gW xs k)) ∧ Below w.heap.size w wr ∧ (∀ j, j < k → nimB (gi xs j) = true)) (fun _ i _ => 5 - (intOf i).toNat)
  case atStart => exact ⟨0, _, _, rfl, by omega, rfl, Own.empty _ 9 _ _ (Nat.le_refl _), (Below.refl _ _).alloc (Nat.le_refl _) _, fun j hj => absurd hj (by omega)⟩
  case round =>
    obtain ⟨k, A4, c4, rfl, hk, rfl, ho, hb, hs⟩ := hrel
    have HS := Lib.hid hs; clear hs
    have hzr := hb.size
    by_cases hlt : k < 5
    · obtain ⟨b, o, rfl, hbB, hc⟩ := (h.below hb hB).at (j := k) (by omega)
      have hc1 := hc k (by omega)
      clear hc
      by_cases hd : nimB (gi xs k) = true
      · have hIT := fun W => itoa_nim (gi xs k) hd W
        have HD := Lib.hid hd
        have HIT := Lib.hid hIT; clear hIT
        have htr := ht.below hb
        go_wp2_with fail
        ((with_reducible refine (isNim_any _ _).mono ?_); rintro e w1 ⟨rfl, rfl⟩)
        go_wp2_with fail
        ((with_reducible refine (HIT.out _ htr).mono ?_); rintro e w2 ⟨rfl, hb2⟩)
        have ho2 := ho.below hb2
        have hz2 := hb2.size
        have hsc : Hid ((gW xs k).length = k) := gW_len xs k
        have HE : Hid (gW xs k ++ [dS (gi xs k)] = gW xs (k + 1)) := (gW_succ xs k).symm
        obtain ⟨u, hu⟩ : ∃ u, u = dS (gi xs k) := ⟨_, rfl⟩
        rw [← hu] at HE ⊢
        clear hu
        go_wp2_with (at_builtin; refine append_str rfl _ _ rfl w.heap.size _ (gW xs k) rfl (ho2.below ((Below.refl _ _).alloc (Nat.le_refl _) _)) _ u rfl ((Blk.new _ _ _).cell 0) (by have := hsc.out; omega) (by simp; omega) ?_; intro A5 c5 w5 ho5 hb5 hg5; rw [hsc.out, HE.out] at ho5; rw [hsc.out])
        have HO := Lib.hid ho5; clear ho5
        go_wp2
        go_roundw
        case rel => exact ⟨k + 1, _, _, by go_num, by omega, rfl, HO.out, (hb.trans (hb2.mono (by omega))).trans (((Below.refl _ _).alloc (by omega) _).trans hb5), fun j hj => if hjk : j = k then by subst hjk; exact HD.out else HS.out j (by omega)⟩
        case measure => simp [intOf]; omega
      · have hd' : nimB (gi xs k) = false := by simpa using hd
        have HG : Hid (genI xs = .tuple #[.string ByteArray.empty, .bool false]) := by
          show _ = _
          unfold genI
          rw [if_neg]
          rw [nimsB, decide_eq_true_eq]
          exact fun hg => hd (hg k (by rw [H5.out]; exact hlt))
        clear hd
        go_wp2_with fail
        ((with_reducible refine (isNim_any _ _).mono ?_); rintro e w1 ⟨rfl, rfl⟩)
        go_wp2
        go_ret2
        exact ⟨by rw [HG.out]; rfl, hb⟩
    · obtain rfl : k = 5 := by omega
      clear hlt hk h5
      go_wp2
      have hall : nimsB xs = true := by rw [nimsB, decide_eq_true_eq]; exact fun i hi => HS.out i (by have := H5.out; omega)
      have HG : Hid (genI xs = .tuple #[.string (gT xs), .bool true]) := by show _ = _; unfold genI; rw [if_pos hall]
      clear hall
      have hcap := (ho.rd).len
      rw [scells_len, gW_len] at hcap
      obtain ⟨g, o0, rfl, hg2, hcell⟩ := ho.rd.at (j := 0) (by rw [scells_len, gW_len]; omega)
      have hcl : Hid (∀ (i : Nat), i < 5 → wr.cell? ⟨g, o0 + i, none⟩ = some (.string (dS (gi xs i)))) := fun i hi => hcell i _ (scells_at _ _ _ (gW_at xs 5 i hi))
      have q0 : wr.cell? ⟨g, o0, none⟩ = some (.string (dS (gi xs 0))) := hcl.out 0 (by omega)
      have l0 := dS_len _ (HS.out 0 (by omega))
      have l1 := dS_len _ (HS.out 1 (by omega))
      have l2 := dS_len _ (HS.out 2 (by omega))
      have l3 := dS_len _ (HS.out 3 (by omega))
      have l4 := dS_len _ (HS.out 4 (by omega))
      clear hcell ho
      have hJ : ∀ W, Below wr.heap.size wr W → Calls Tryd.prog 41 #[.slice (some ⟨g, o0 + 1, none⟩) 4 (c4 - 1), .string ⟨#[46]⟩] W fun e w' => e = .returned (.string (str (gL xs 1 ++ [46] ++ gL xs 2 ++ [46] ++ gL xs 3 ++ [46] ++ gL xs 4))) ∧ Below W.heap.size W w' := by
        intro W hW
        have hj : Lib.join ([dS (gi xs 1), dS (gi xs 2), dS (gi xs 3), dS (gi xs 4)].map (·.data.toList)) (⟨#[46]⟩ : ByteArray).data.toList = gL xs 1 ++ [46] ++ gL xs 2 ++ [46] ++ gL xs 3 ++ [46] ++ gL xs 4 := by
          rw [List.map_cons, Lib.join_cons]
          simp [Lib.joinTail, dS, gL, str_data]
        have hh := Any.strings_Join Tryd.lays156 builderX g (o0 + 1) (c4 - 1) [dS (gi xs 1), dS (gi xs 2), dS (gi xs 3), dS (gi xs 4)] ⟨#[46]⟩ W (fun j x hx => by
          have hjl := (List.getElem?_eq_some_iff.1 hx).1
          have hjl' : j < 4 := by simpa using hjl
          have hcc := (hW.cell (p := ⟨g, o0 + (1 + j), none⟩) (by show g < _; omega)).trans (hcl.out (1 + j) (by omega))
          rw [Nat.add_assoc, hcc]
          have : j = 0 ∨ j = 1 ∨ j = 2 ∨ j = 3 := by omega
          rcases this with rfl | rfl | rfl | rfl <;> simp at hx <;> subst hx <;> rfl) (by have := hW.size; omega) (by simp) (by simp; omega) (by rw [hj]; unfold gL; simp; omega)
        rw [hj] at hh
        exact hh
      have a1 := fun W => add_l (gL xs 0) [94] (gL xs 0 ++ [94]) ⟨#[94]⟩ rfl rfl (by unfold gL; simp; omega) W
      have a2 := fun W => add_l (gL xs 0 ++ [94]) (gL xs 1 ++ [46] ++ gL xs 2 ++ [46] ++ gL xs 3 ++ [46] ++ gL xs 4) (gL xs 0 ++ [94] ++ gL xs 1 ++ [46] ++ gL xs 2 ++ [46] ++ gL xs 3 ++ [46] ++ gL xs 4) _ rfl (by simp) (by unfold gL; simp; omega) W
      have e0 : dS (gi xs 0) = str (gL xs 0) := rfl
      rw [e0] at q0
      have eT : str (gL xs 0 ++ [94] ++ gL xs 1 ++ [46] ++ gL xs 2 ++ [46] ++ gL xs 3 ++ [46] ++ gL xs 4) = gT xs := rfl
      rw [eT] at a2
      generalize str (gL xs 1 ++ [46] ++ gL xs 2 ++ [46] ++ gL xs 3 ++ [46] ++ gL xs 4) = tj at *
      generalize str (gL xs 0 ++ [94]) = t1 at *
      generalize str (gL xs 0) = s0 at *
      generalize gT xs = gt at *
      have HJ := Lib.hid hJ
      clear hJ l0 l1 l2 l3 l4 e0 eT
      have hc1 : ¬ c4 = 1 := by omega
      have hc5 : (5 : Int) ≤ (c4 : Int) := by omega
      have hc5' : 5 ≤ c4 := by omega
      have HQ : Hid (∀ w', Below wr.heap.size wr w' → w'.cell? ⟨g, o0, none⟩ = some (.string s0)) := fun w' hb => (hb.cell (p := ⟨g, o0, none⟩) (by show g < _; omega)).trans q0
      clear hcap hc5' h1 h2
      have hx0 := fun x => (grow_cell (w := wr) g o0 (by omega) x).trans q0
      clear q0
      refine wp_region_inv (Below wr.heap.size wr) (grow0 _) (by kernel_rfl) (by kernel_rfl) ?_
      repeat (go_big_quiet_step ((go_at_call 41; exact grow_step (HJ.out _ (inst_inv _)))))
      refine wpQuiet_nil ?_
      intro w2 hw'
      have hb2 := grow_of hw'
      clear hw'
      go_wp2
      go_ret2
      exact ⟨by rw [HG.out]; rfl, hb.trans (hb2.mono (by omega))⟩
end Go.Proofs.YtmdnbmdkommmkaaDoor
