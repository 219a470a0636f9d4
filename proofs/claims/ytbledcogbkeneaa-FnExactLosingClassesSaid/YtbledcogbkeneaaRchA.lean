/- Several texts in one: XConc XRep XReach XValI. Conditions: none. -/
import Derived.Test.YtbledcogbkeneaaShelfG
import Derived.Test.YtbledcogbkeneaaMoves2
import Derived.Test.YtbledcogbkeneaaBkA
import Derived.Test.YtbledcogbkeneaaSort
import Derived.Test.YtbledcogbkeneaaHpA
import Derived.LoopTactic
import Derived.Test.YtbledcogbkeneaaKnown
namespace Go.Proofs.Ytbledcogbkeneaa
open Go.RowKit
set_option linter.unusedVariables false

theorem own_nil (w : World) (E : TypeId) (base : Nat) : Own w base E (.slice none 0 0) [] := ⟨rfl, .inl ⟨rfl, rfl⟩⟩
theorem own_zero {w : World} {base g G : Nat} {C : Array Value} (h : Blk w g 3 C) (hb : base ≤ g) (hs : C.size = G) (hm : G ≤ maxLen) : Own w base 3 (.slice (some ⟨g, 0, none⟩) 0 G) [] :=
  ⟨rfl, .inr ⟨g, G, C, rfl, hb, h, Nat.zero_le _, hm, by omega, rfl⟩⟩
theorem grow_any (n : Nat) (w : World) (hn : n ≤ 1000000) :
    Calls Try.prog 81 #[.slice none 0 0, .int .i64 n] w fun e w' => ∃ A c, e = .returned (.slice A 0 c) ∧ Own w' w.heap.size 3 (.slice A 0 c) [] ∧ Below w.heap.size w w' := by
  by_cases h0 : n = 0
  · subst h0
    refine (Any8.slices_Grow_room Try.lays_f81 none 0 0 0 w (by omega) (by omega) (by omega) (by omega)).mono ?_
    rintro e w' ⟨he, rfl⟩
    exact ⟨none, 0, he, own_nil _ _ _, Below.refl _ _⟩
  · obtain ⟨i0, hi, hz0, hz1, hz2⟩ := info_parts infoInt
    refine (Any8.slices_Grow_grow Try.lays_f81 i0 (.int .i64 0) hi hz0 (by rw [hz1]; omega) none 0 0 n [] w (by omega) (by omega) (by rw [hz2]; omega) (by omega) (by simp) (fun _ => rfl) (fun a h => by cases h)).mono ?_
    rintro e w' ⟨he, rfl⟩
    refine ⟨_, _, he, ?_, ?_⟩
    · have hge := grownCap_ge w (0 + n) 0 3
      have hmx : grownCap w (0 + n) 0 3 ≤ maxLen := grownCap_le_maxLen w _ _ _ (by unfold maxLen; omega)
      have hsz : (#[] ++ Builtin.zeroCells (Value.int IntKind.i64 0).cells (0 + n - 0) ++ Builtin.zeroCells (Value.int IntKind.i64 0).cells (grownCap w (0 + n) 0 3 - (0 + n))).size = grownCap w (0 + n) 0 3 := by
        rw [Nat.zero_add] at hge ⊢
        simp [Builtin.zeroCells, Value.cells]
        omega
      exact own_zero (Blk.new_at w.drew _ _ rfl) (Nat.le_refl _) hsz hmx
    · exact (Below.refl _ _).drew.alloc (Nat.le_refl _) _

theorem flat_snoc (xss : List (List Int)) (k : Nat) (h : k < xss.length) : (xss.take (k + 1)).flatten = (xss.take k).flatten ++ gl xss k := by
  rw [List.take_succ_eq_append_getElem h, List.flatten_append, gl_lt h]
  simp
theorem flat_le (xss : List (List Int)) (k : Nat) : (xss.take k).flatten.length ≤ xss.flatten.length := by
  conv => rhs; rw [← List.take_append_drop k xss]
  rw [List.flatten_append, List.length_append]
  omega

set_option maxRecDepth 100000 in
set_option maxHeartbeats 1600000 in
theorem concat_any (A : Option Addr) (c : Nat) (xss : List (List Int)) (w : World) (lo B : Nat) (hB : B ≤ w.heap.size) (h : RdR w lo B A c xss) (hl : xss.flatten.length ≤ 1000000) :
    Calls Try.prog 73 #[.slice A xss.length c] w (RetI w xss.flatten) := by
  have h1 := h.len
  have h2 := h.max
  go_enter Try.func73, Try.ntmps73
  go_wp2
  go_loop [3, 11] (fun v s => ∃ k : Nat, s = .int .i64 k ∧ k ≤ xss.length ∧ v = .int .i64 ((xss.take k).flatten.length : Nat)) (fun _ s => xss.length - (intOf s).toNat)
  case atStart => exact ⟨0, rfl, by omega, rfl⟩
  case round =>
    obtain ⟨k, rfl, hk, rfl⟩ := hrel
    have hle := flat_le xss k
    by_cases hlt : k < xss.length
    · have hle2 := flat_le xss (k + 1)
      have hsn := flat_snoc xss k hlt
      have hs2 : (xss.take (k + 1)).flatten.length = (xss.take k).flatten.length + (gl xss k).length := by rw [hsn, List.length_append]
      obtain ⟨b, o, rfl, hbB, hc⟩ := h.at (j := k) hlt
      obtain ⟨Ak, ck, hck, hrk⟩ := hc k hlt
      have hrl := hrk.len
      obtain ⟨a, ha⟩ : ∃ a, a = (xss.take k).flatten.length := ⟨_, rfl⟩
      obtain ⟨a', ha'⟩ : ∃ a', a' = (xss.take (k + 1)).flatten.length := ⟨_, rfl⟩
      rw [← ha] at hle hs2 ⊢
      rw [← ha'] at hle2 hs2
      have HA' := Lib.hid ha'; have HS2 := Lib.hid hs2
      have hb3 : (a : Int) + ((gl xss k).length : Int) ≤ 9223372036854775807 := by omega
      have hn1 : ¬ (a : Int) + ((gl xss k).length : Int) < 0 := by omega
      clear hc ha ha' hsn hs2
      go_wp2
      go_round
      case rel => exact ⟨k + 1, by go_num, by omega, by rw [← HA'.out, HS2.out]; go_num⟩
      case measure => simp [intOf]; omega
    · obtain rfl : k = xss.length := by omega
      rw [List.take_length]
      obtain ⟨T, hT⟩ : ∃ T, T = xss.flatten.length := ⟨_, rfl⟩
      rw [← hT] at hl ⊢
      have HTT := Lib.hid hT
      clear hle hk hlt hT
      go_wp2_with (go_at_call 81; (with_reducible refine (grow_any T _ hl).mono ?_); rintro e w1 ⟨A1, c1, rfl, ho1, hb1⟩)
      have HR' : Hid (∀ W, Below w.heap.size w W → RdR W lo B A c xss) := fun W hW => h.below hW hB
      have hz1 := hb1.size
      clear h
      go_loopw [6, 27] (fun v s wr => ∃ (k : Nat) (A2 : Option Addr) (c2 : Nat) (zs : List Int), s = .int .i64 k ∧ k ≤ xss.length ∧ zs = (xss.take k).flatten ∧ v = .slice A2 zs.length c2 ∧ Own wr w.heap.size 3 (.slice A2 zs.length c2) (ints zs) ∧ Below w.heap.size w wr) (fun _ s _ => xss.length - (intOf s).toNat)
      case atStart => exact ⟨0, A1, c1, [], rfl, by omega, by simp, rfl, ho1, hb1⟩
      case round =>
        clear ho1 hb1
        obtain ⟨k, A2, c2, zs, rfl, hk, hzs, rfl, ho, hb⟩ := hrel
        have hle := flat_le xss k
        rw [← hzs, ← HTT.out] at hle
        by_cases hlt : k < xss.length
        · have hle2 := flat_le xss (k + 1)
          have hsn := flat_snoc xss k hlt
          rw [← hzs] at hsn
          rw [hsn, List.length_append, ← HTT.out] at hle2
          obtain ⟨b, o, rfl, hbB, hc⟩ := (HR'.out wr hb).at (j := k) hlt
          obtain ⟨Ak, ck, hck, hrk⟩ := hc k hlt
          have HSN := Lib.hid hsn; have HO := Lib.hid ho; have HRK := Lib.hid hrk
          have hzw := hb.size
          clear hc hzs hsn ho hrk
          go_wp2_with (at_builtin; refine wpList_append_rd rfl _ _ 22 3 (.int .i64 0) 8 rfl Try.underlying22 infoInt rfl (by omega) w.heap.size (.slice A2 zs.length c2) (ints zs) rfl HO.out B Ak (gl xss k).length ck (ints (gl xss k)) rfl (by rw [ints_len]) HRK.out (fun u hu => ints_one hu) (by rw [ints_len, ints_len]; omega) (by omega) ?_; intro A5 c5 w5 ho5 hb5 hg5; rw [ints_len, ints_len, ← List.length_append] at ho5 ⊢)
          have HO5 := Lib.hid ho5
          clear ho5 hg5
          go_roundw
          case rel =>
            have e9 : ints zs ++ ints (gl xss k) = ints (zs ++ gl xss k) := (List.map_append (f := Value.int .i64)).symm
            exact ⟨k + 1, A5, c5, zs ++ gl xss k, by go_num, by omega, HSN.out.symm, by rw [List.length_append], by rw [← e9]; exact HO5.out, hb.trans hb5⟩
          case measure => simp [intOf]; omega
        · obtain rfl : k = xss.length := by omega
          rw [List.take_length] at hzs
          have HZ := Lib.hid hzs
          clear hzs
          go_wp2
          go_ret
          rw [← HZ.out]
          exact ⟨A2, c2, rfl, own_ints.2 ho, hb⟩
end Go.Proofs.Ytbledcogbkeneaa
namespace Go.Proofs.Ytbledcogbkeneaa
open Go.RowKit
set_option linter.unusedVariables false

theorem Blk.drew' {w : World} {g : Nat} {t : TypeId} {cs : Array Value} (h : Blk w g t cs) : Blk w.drew g t cs := h
theorem ins_nil (w : World) : Calls Try.prog 90 #[.slice none 0 0, .int .i64 0, .int .i64 0] w fun e w' => e = .returned (.tuple #[]) ∧ w' = w := by
  go_enter Try.func90, Try.ntmps90
  go_wp2
  refine wp_loop_rounds 1 ?_
  rw [rounds_succ]
  go_wp2
  go_end0
  exact ⟨rfl, rfl⟩
theorem pdq_nil (w : World) (u : Value) : Calls Try.prog 82 #[.slice none 0 0, .int .i64 0, .int .i64 0, u] w fun e w' => e = .returned (.tuple #[]) ∧ w' = w := by
  go_enter Try.func82, Try.ntmps82
  go_wp2
  refine wp_loop_rounds 1 ?_
  rw [rounds_succ]
  go_wp2_with (go_at_call 90; (with_reducible refine (ins_nil _).mono ?_); rintro e w1 ⟨rfl, rfl⟩)
  exact bodyPost_ret (results_none rfl _ _ _) rfl ⟨rfl, rfl⟩
theorem len_zero (w : World) : Calls Try.prog 83 #[.int .u64 0] w fun e w' => e = .returned (.int .i64 0) ∧ w' = w := by
  go_enter Try.func83, Try.ntmps83
  go_wp2
  go_ret
  exact ⟨by kernel_rfl, rfl⟩
theorem sort_nil (w : World) : Calls Try.prog 74 #[.slice none 0 0] w fun e w' => e = .returned (.tuple #[]) ∧ Below w.heap.size w w' := by
  go_enter Try.func74, Try.ntmps74
  go_wp2_with (first
    | (go_at_call 83; (with_reducible refine (len_zero _).mono ?_); rintro e w1 ⟨rfl, rfl⟩)
    | (go_at_call 82; (with_reducible refine (pdq_nil _ _).mono ?_); rintro e w2 ⟨rfl, rfl⟩))
  go_end0
  exact ⟨rfl, Below.refl _ _⟩
theorem sortO_any (A : Option Addr) (c base : Nat) (xs : List Int) (w : World) (hn : xs.length ≤ 1000000) (hbase : base ≤ w.heap.size) (ho : Own w base 3 (.slice A xs.length c) (ints xs)) :
    Calls Try.prog 74 #[.slice A xs.length c] w fun e w' => e = .returned (.tuple #[]) ∧ Own w' base 3 (.slice A xs.length c) (ints (srt xs)) ∧ Below base w w' := by
  rcases ho.2 with ⟨hv, h0⟩ | ⟨g, cap, cur, hv, r⟩
  · injection hv with h1 h2 h3
    subst h1 h3
    have hx : xs = [] := List.eq_nil_of_length_eq_zero h2
    subst hx
    refine (sort_nil w).mono ?_
    rintro e w' ⟨rfl, hb⟩
    have e0 : srt [] = [] := by simp [srt]
    rw [e0]
    exact ⟨rfl, ⟨rfl, .inl ⟨rfl, rfl⟩⟩, hb.mono hbase⟩
  · injection hv with h1 h2 h3
    subst h1 h3
    exact sort_any g c base xs w hn ho

set_option maxHeartbeats 800000 in
theorem filled_any (A : Option Addr) (c : Nat) (xs : List Int) (w : World) (B : Nat) (hB : B ≤ w.heap.size) (h : RdI w B A c xs) (hp : ∀ x ∈ xs, 0 ≤ x) (hl : xs.length ≤ 1000000) :
    Calls Try.prog 72 #[.slice A xs.length c] w (RetI w (nz xs)) := by
  have h1 := h.len
  have h2 := h.max
  go_enter Try.func72, Try.ntmps72
  go_wp2
  go_loopw [3, 9] (fun v s wr => ∃ (k : Nat) (A1 : Option Addr) (c1 : Nat) (zs : List Int), s = .int .i64 k ∧ k ≤ xs.length ∧ zs = nz (xs.take k) ∧ v = .slice A1 zs.length c1 ∧ Own wr w.heap.size 3 (.slice A1 zs.length c1) (ints zs) ∧ Below w.heap.size w wr) (fun _ s _ => xs.length - (intOf s).toNat)
  case atStart => exact ⟨0, _, _, [], rfl, by omega, rfl, rfl, Own.empty w 3 3 _ (Nat.le_refl _), bel1 w _⟩
  case round =>
    obtain ⟨k, A1, c1, zs, rfl, hk, hzs, rfl, ho, hb⟩ := hrel
    by_cases hlt : k < xs.length
    · obtain ⟨b, o, rfl, hbB, hc⟩ := (h.below hb hB).at (j := k) hlt
      have hck := hc k hlt
      have hx0 := hp _ (gi_mem hlt)
      have hsn := nz_snoc (xs.take k) (gi xs k)
      rw [← take_succ_gi xs k hlt, ← hzs] at hsn
      obtain ⟨x, hx⟩ : ∃ x, x = gi xs k := ⟨_, rfl⟩
      rw [← hx] at hck hsn hx0
      have hzl : zs.length ≤ xs.length := by rw [hzs]; exact Nat.le_trans (nz_len _) (by rw [List.length_take]; omega)
      clear hc hx hzs h
      by_cases hx1 : x = 0
      · rw [if_pos hx1] at hsn
        have hng : ¬ (0 : Int) < x := by omega
        have HSN := Lib.hid hsn; have HO := Lib.hid ho
        clear hsn ho hx1
        go_wp2
        go_roundw
        case rel => exact ⟨k + 1, A1, c1, zs, by go_num, by omega, HSN.out.symm, rfl, HO.out, hb⟩
        case measure => simp [intOf]; omega
      · rw [if_neg hx1] at hsn
        have hng : (0 : Int) < x := by omega
        have HSN := Lib.hid hsn; have HO := Lib.hid ho
        have hzw := hb.size
        clear hsn ho hx1
        go_wp2_with (at_builtin; refine append_int rfl _ _ rfl w.heap.size (.slice A1 zs.length c1) zs rfl (own_ints.2 (HO.out.below (bel1 _ _))) wr.heap.size x rfl ((Blk.new _ _ _).cell 0) (by omega) (by simp; omega) ?_; intro A5 c5 w5 ho5 hb5 hg5)
        have HO5 := Lib.hid ho5
        clear ho5 hg5
        go_roundw
        case rel => exact ⟨k + 1, A5, c5, zs ++ [x], by go_num, by omega, HSN.out.symm, by simp, by rw [List.length_append]; exact own_ints.1 HO5.out, hb.trans (((Below.refl _ _).alloc hzw _).trans hb5)⟩
        case measure => simp [intOf]; omega
    · obtain rfl : k = xs.length := by omega
      rw [List.take_length] at hzs
      have HZ := Lib.hid hzs
      clear hzs
      go_wp2
      go_ret
      rw [← HZ.out]
      exact ⟨A1, c1, rfl, own_ints.2 ho, hb⟩

set_option maxRecDepth 100000 in
set_option maxHeartbeats 1600000 in
theorem replaced_any (A A' : Option Addr) (c c' i : Nat) (p mv : List Int) (w : World) (B : Nat) (hB : B ≤ w.heap.size) (h : RdI w B A c p) (h' : RdI w B A' c' mv) (hi : i < p.length) (hl : p.length ≤ 1000) (hm : mv.length ≤ 1000) :
    Calls Try.prog 79 #[.slice A p.length c, .int .i64 i, .slice A' mv.length c'] w (RetI w (aft p i mv)) := by
  have h1 := h.len
  have h2 := h.max
  have h3 := h'.len
  have h4 := h'.max
  have HLEN : Hid ([p.take i, p.drop (i + 1), mv].flatten.length ≤ 1000000) := Lib.hid (by simp; omega)
  have HFL : Hid ([p.take i, p.drop (i + 1), mv].flatten = aft0 p i mv) := Lib.hid (by simp [aft0])
  obtain ⟨b, o, rfl, hbB, hc⟩ := h.at (j := i) hi
  clear hc
  have hiI : (i : Int) < (p.length : Int) := by omega
  have hi0 : (0 : Int) ≤ (i : Int) := by omega
  have hsl0 := slice_to b o p.length c i (by omega)
  have hsl := slice_from b o p.length c i hi
  have hww : IntKind.i64.wrap ((i : Int) + 1) = (i : Int) + 1 := by rw [IntKind.wrap_i64]; omega
  have hcut := Rd.cut h (i + 1) (by rw [ints_len]; omega)
  have htk := Rd.take h i
  obtain ⟨A2, hA2⟩ : ∃ A2, A2 = (if c = i + 1 then (some ⟨b, o, none⟩ : Option Addr) else some ⟨b, o + (i + 1), none⟩) := ⟨_, rfl⟩
  have hA3 : (if c = i + 1 then (some ⟨b, o, none⟩ : Option Addr) else (some (⟨b, o, none⟩ : Addr)).map (·.add (i + 1))) = A2 := by
    rw [hA2]; simp [add_none]
  rw [hA3] at hcut
  rw [← hA2] at hsl
  clear hA2 hA3
  have hr1 : RdI w B (some ⟨b, o, none⟩) c (p.take i) := by
    have : ints (p.take i) = (ints p).take i := by simp [ints, List.map_take]
    unfold RdI; rw [this]; exact htk
  have hr2 : RdI w B A2 (c - (i + 1)) (p.drop (i + 1)) := by
    have : ints (p.drop (i + 1)) = (ints p).drop (i + 1) := by simp [ints, List.map_drop]
    unfold RdI; rw [this]; exact hcut
  have e1 : (p.take i).length = i := by rw [List.length_take]; omega
  have e2 : (p.drop (i + 1)).length = p.length - (i + 1) := by rw [List.length_drop]
  have HR1 := Lib.hid hr1; have HR2 := Lib.hid hr2; have HR3 := Lib.hid h'
  have E1 := Lib.hid e1; have E2 := Lib.hid e2
  clear hr1 hr2 hcut htk e1 e2 h h'
  go_enter Try.func79, Try.ntmps79
  go_wp2
  refine wp_region_tail 8 (by kernel_rfl) (by kernel_rfl) ?_
  simp only [List.take_succ_cons, List.take_zero, List.drop_succ_cons, List.drop_zero]
  repeat (go_big_quiet_step (fail))
  refine wpQuiet_nil ?_
  have hx3 : RdR (w.alloc (.cells #[.slice (some ⟨b, o, none⟩) i c, .slice A2 (p.length - (i + 1)) (c - (i + 1)), .slice A' mv.length c'] 22)).drew 0 (w.heap.size + 1) (some ⟨w.heap.size, 0, none⟩) 3 [p.take i, p.drop (i + 1), mv] := by
    have hbw : Below w.heap.size w (w.alloc (.cells #[.slice (some ⟨b, o, none⟩) i c, .slice A2 (p.length - (i + 1)) (c - (i + 1)), .slice A' mv.length c'] 22)).drew := (bel1 w _).drew
    refine ⟨[.slice (some ⟨b, o, none⟩) i c, .slice A2 (p.length - (i + 1)) (c - (i + 1)), .slice A' mv.length c'], Rd.of_lit (Blk.drew' (Blk.new w 22 _)) (by omega) (by simp), Lo.zero, rfl, fun t ht => ?_⟩
    rcases t with _ | _ | _ | t
    · exact ⟨_, _, by rw [show gl [p.take i, p.drop (i + 1), mv] 0 = p.take i from rfl, E1.out]; rfl, (HR1.out.below hbw hB).more (by omega), Lo.zero⟩
    · exact ⟨_, _, by rw [show gl [p.take i, p.drop (i + 1), mv] (0 + 1) = p.drop (i + 1) from rfl, E2.out]; rfl, (HR2.out.below hbw hB).more (by omega), Lo.zero⟩
    · exact ⟨_, _, rfl, (HR3.out.below hbw hB).more (by omega), Lo.zero⟩
    · simp at ht
      omega
  have HX3 := Lib.hid hx3
  clear hx3
  have hbw : Below w.heap.size w (w.alloc (.cells #[.slice (some ⟨b, o, none⟩) i c, .slice A2 (p.length - (i + 1)) (c - (i + 1)), .slice A' mv.length c'] 22)).drew := (bel1 w _).drew
  have hzw : (w.alloc (.cells #[.slice (some ⟨b, o, none⟩) i c, .slice A2 (p.length - (i + 1)) (c - (i + 1)), .slice A' mv.length c'] 22)).drew.heap.size = w.heap.size + 1 := by
    show (w.heap.push _).size = _
    simp
  have hcc := concat_any (some ⟨w.heap.size, 0, none⟩) 3 [p.take i, p.drop (i + 1), mv] _ 0 (w.heap.size + 1) (by rw [hzw]; exact Nat.le_refl _) HX3.out HLEN.out
  have hal := HLEN.out
  rw [HFL.out] at hcc hal
  rw [show [p.take i, p.drop (i + 1), mv].length = 3 from rfl] at hcc
  have HCC := Lib.hid hcc; have HAL := Lib.hid hal; have HZ := Lib.hid hzw; have HBW := Lib.hid hbw
  clear hcc hal hzw hbw
  go_wp2_with (first
    | (go_at_call 73; (with_reducible refine (HCC.out).mono ?_); rintro e w1 ⟨A3, c3, rfl, ho3, hb3⟩; have hz3 := hb3.size; have hzz := HZ.out)
    | (go_at_call 74; (with_reducible refine (sortO_any A3 c3 w.heap.size (aft0 p i mv) _ HAL.out (by omega) ((own_ints.1 ho3).le (by omega))).mono ?_); rintro e w2 ⟨rfl, ho4, hb4⟩))
  have e9 : (aft0 p i mv).length = (aft p i mv).length := (srt_len _).symm
  go_ret
  refine ⟨A3, c3, by rw [← e9]; rfl, own_ints.2 ?_, (HBW.out.trans (hb3.mono (by omega))).trans hb4⟩
  rw [← e9]
  exact ho4
end Go.Proofs.Ytbledcogbkeneaa
namespace Go.Proofs.Ytbledcogbkeneaa
open Go.RowKit
set_option linter.unusedVariables false

theorem HL.mov {w : World} {lo : Nat} {v : Value} {b : Nat} {P : List Int → Prop} (h : HL w lo v b P) : Mov w lo v b P := by
  obtain ⟨L, g, c, rfl, h2, h3, h4, h5, h6, h7⟩ := h
  have hl : (L.map (·.2)).length = L.length := List.length_map _
  have hfr : FrR w lo 22 3 (.slice (some ⟨g, 0, none⟩) L.length c) ((L.map (·.2)).map ints) := ⟨_, h2, h3.frc, fun i u k hi hu he => by
    rw [List.getElem?_map] at hi
    rcases hx : L[i]? with _ | x
    · rw [hx] at hi; cases hi
    · rw [hx] at hi
      simp only [Option.map_some, Option.some.injEq] at hi
      subst hi
      injection he with he
      subst he
      exact h4 x (List.mem_of_getElem? hx) hu⟩
  exact ⟨L.map (·.2), some ⟨g, 0, none⟩, c, by rw [hl], hfr.rd, h5, by rw [hl]; exact h6, h7⟩
theorem app_new {W w1 : World} {ops : Array Oper} {rest : List Oper} {o : Oper} {a : Act} {Q : Exit → Act → World → Prop} (hgd : o.guard = none) (s x : Operand)
    (ho : o.op = .call { callee := .builtin .append, args := #[s, x], argTypes := #[63, 63] }) (lo : Nat) (v : Value) (b : Nat) (P : List Int → Prop) (xs : List Int) (A : Option Addr) (c : Nat)
    (hm : MvW W lo v b P) (hlo : lo ≤ W.heap.size) (hb1 : Below W.heap.size W w1) (hr : Own w1 W.heap.size 3 (.slice A xs.length c) (ints xs)) (W2 : World) (hW2 : W2 = w1.alloc (.cells #[.slice A xs.length c] 22))
    (hs : a.eval s = v) (hx : a.eval x = .slice (some ⟨w1.heap.size, 0, none⟩) 1 1) (hb : b ≤ 100000000)
    (h : ∀ v' w', MvW w' lo v' (b + 1) (fun ys => P ys ∨ ys = xs) → W2.grownBy w' v.ownBlock → (v'.ownBlock = v.ownBlock ∨ v'.ownBlock = some W2.heap.size) → wpList Try.prog ops Q rest (a.put o.dst v') w') :
    wpList Try.prog ops Q (o :: rest) a W2 := by
  subst hW2
  obtain ⟨xss, g, c0, hv, ⟨cs, hF⟩, hxl, hP⟩ := hm
  have hcl : cs.length = xss.length := by rw [hF.2.1.1, List.length_map]
  have hb2 : Below w1.heap.size w1 (w1.alloc (.cells #[.slice A xs.length c] 22)) := bel1 _ _
  have hb12 := gtr hb1 hb2
  refine wpList_append_at hgd s x 63 22 (.slice none 0 0) 24 ho Try.underlying63 infoRow rfl (by omega) lo v cs hs (hF.1.below hb12) (w1.heap.size + 1) (some ⟨w1.heap.size, 0, none⟩) 1 1 [.slice A xs.length c] hx rfl (Rd.of_blk (Blk.new _ _ _) (Nat.lt_succ_self _)) (fun u hu => by simp at hu; subst hu; rfl) (by simp; omega) (by have := hb12.size; omega) ?_
  intro A6 c6 w6 ho6 hb6 hg6 hp6
  rw [hcl, List.length_singleton] at ho6 hp6 ⊢
  exact h _ w6 (frr_app (g := g) (c := c0) hF hlo hxl hP hb1 hr hb2 ho6 hg6 hp6) hg6 hp6
theorem RdI.grownX {w w' : World} {lo B c : Nat} {A : Option Addr} {xs : List Int} {row : Option Nat} (h : RdI w B A c xs) (hl : Lo lo A) (hg : w.grownBy w' row) (hB : B ≤ w.heap.size) (hr : ∀ g, row = some g → g < lo ∨ B ≤ g) : RdI w' B A c xs := Rd.grown h hl hg hB hr
theorem MvW.blk {w : World} {lo : Nat} {v : Value} {b : Nat} {P : List Int → Prop} (h : MvW w lo v b P) : ∀ k, v.ownBlock = some k → lo ≤ k ∧ k < w.heap.size := by
  obtain ⟨xss, g, c, rfl, h2, r⟩ := h
  exact h2.blk

/-- What the first j moves of heap n leave beside what those of the heaps ahead of it leave. -/
def reaP (cs p : List Int) (n : Nat) (M : List (List Int)) (j : Nat) (q : List Int) : Prop := optU cs p n q ∨ ∃ t, t < j ∧ q = aft p n (gl M t)
theorem reaP_zero (cs p : List Int) (n : Nat) (M : List (List Int)) (q : List Int) : optU cs p n q ↔ reaP cs p n M 0 q :=
  ⟨.inl, fun h => h.elim id fun ⟨t, h, _⟩ => absurd h (by omega)⟩
theorem reaP_succ (cs p : List Int) (n : Nat) (M : List (List Int)) (j : Nat) (q : List Int) : (reaP cs p n M j q ∨ q = aft p n (gl M j)) ↔ reaP cs p n M (j + 1) q := by
  constructor
  · rintro ((h | ⟨t, h, e⟩) | e)
    · exact .inl h
    · exact .inr ⟨t, by omega, e⟩
    · exact .inr ⟨j, by omega, e⟩
  · rintro (h | ⟨t, h, e⟩)
    · exact .inl (.inl h)
    · by_cases ht : t = j
      · subst ht; exact .inr e
      · exact .inl (.inr ⟨t, by omega, e⟩)
theorem reaP_end (cs p : List Int) (n : Nat) (hn : n < p.length) (M : List (List Int)) (hM : ∀ x, x ∈ M ↔ isMv cs (gi p n).toNat x) (q : List Int) : reaP cs p n M M.length q ↔ optU cs p (n + 1) q := by
  rw [optU_succ cs p q n hn]
  constructor
  · rintro (h | ⟨t, h, e⟩)
    · exact .inl h
    · exact .inr ⟨gl M t, (hM _).1 (by rw [gl_lt h]; exact List.getElem_mem h), e⟩
  · rintro (h | ⟨mv, h2, e⟩)
    · exact .inl h
    · obtain ⟨t, ht, rfl⟩ := List.getElem_of_mem ((hM mv).2 h2)
      exact .inr ⟨t, ht, by rw [e, gl_lt ht]⟩

set_option maxRecDepth 100000 in
set_option maxHeartbeats 3200000 in
theorem reached_any (cs : List Int) (hg : goodCode cs) (Ac A : Option Addr) (cc c : Nat) (p q : List Int) (w : World) (B : Nat) (hB : B ≤ w.heap.size) (hcode : RdI w B Ac cc cs) (hr : RdI w B A c p) (hq : q = nz p) (hq20 : Hp 20 q) (hp0 : ∀ x ∈ p, 0 ≤ x) (hpl : p.length ≤ 1000) :
    Calls Try.prog 70 #[.slice Ac cs.length cc, .slice A p.length c] w fun e w' => (∃ v, e = .returned v ∧ HL w' w.heap.size v 200000 (optP cs q)) ∧ Below w.heap.size w w' := by
  have hlen := hq20.len
  have HP := Lib.hid hq20; have HG := Lib.hid hg; have HCODE := Lib.hid hcode
  have hf := fun W (hW : Below w.heap.size w W) => filled_any A c p W B (by have := hW.size; omega) (hr.below hW hB) hp0 (by omega)
  rw [← hq] at hf
  have HF := Lib.hid hf
  clear hf hr hq20 hg hcode hq hp0
  go_enter Try.func70, Try.ntmps70
  go_wp2_with fail
  ((with_reducible refine (HF.out _ (bel1 w _)).mono ?_); rintro e w1 ⟨A1, c1, rfl, ho1, hb1⟩)
  have hm1 := (MvW.new w (optU cs q 0) (optU_zero cs q)).below hb1
  have hbw := gtr (bel1 w (.cells #[] 22)) hb1
  have hz0 : (w.alloc (.cells #[] 22)).heap.size = w.heap.size + 1 := by simp
  have hz1 := hb1.size
  obtain ⟨lo1, hlo1⟩ : ∃ lo1, lo1 = w.heap.size + 1 := ⟨_, rfl⟩
  obtain ⟨B1, hB1⟩ : ∃ B1, B1 = w1.heap.size := ⟨_, rfl⟩
  have hrq : RdI w1 B1 A1 c1 q := by rw [hB1]; exact ho1.rd rfl
  have hloq : Lo lo1 A1 := by
    rw [hlo1, ← hz0]; exact Lo.ownI ho1
  have hblk : ∀ k, (Value.slice (some ⟨w.heap.size, 0, none⟩) 0 0).ownBlock = some k → k < lo1 ∨ B1 ≤ k := fun k hk => by
    have hk : w.heap.size = k := by injection hk
    left; omega
  have hBw : B1 ≤ w1.heap.size := by omega
  have hwl : w.heap.size < lo1 := by omega
  have hlB : lo1 ≤ B1 := by omega
  have HLOQ := Lib.hid hloq
  have hcl := hrq.len
  have hcm := hrq.max
  have HFX : Hid True := trivial
  clear ho1 hb1 hz0 hz1 hlo1 hB1 hloq HF
  go_wp2
  go_loopw [5, 15] (fun v s wr => ∃ k : Nat, s = .int .i64 k ∧ k ≤ q.length ∧ MvW wr w.heap.size v (k * 10000) (optU cs q k) ∧ Below w.heap.size w wr ∧ RdI wr B1 A1 c1 q ∧ (∀ j, v.ownBlock = some j → j < lo1 ∨ B1 ≤ j) ∧ B1 ≤ wr.heap.size) (fun _ s _ => q.length - (intOf s).toNat)
  case atStart => exact ⟨0, rfl, by omega, hm1, hbw, hrq, hblk, hBw⟩
  case round =>
    clear hm1 hbw hrq hblk hBw
    obtain ⟨k, rfl, hk, hm, hb, hrq, hblk, hBw⟩ := hrel
    have HM := Lib.hid hm; have HBLK := Lib.hid hblk
    clear hm hblk
    by_cases hlt : k < q.length
    · rcases k with _ | k
      · obtain ⟨b, o, hbo, hbB, hc⟩ := hrq.at (j := 0) hlt
        have hcn := hc 0 hlt
        subst hbo
        rw [Nat.add_zero] at hcn
        clear hc
        have hgi := HP.out.le (gi_mem hlt)
        obtain ⟨x, hx⟩ := Int.eq_ofNat_of_zero_le (show 0 ≤ gi q (0) by omega)
        rw [hx] at hcn
        try rw [hx] at ht
        have hxx : x ≤ 20 := by omega
        have hxn : (gi q (0)).toNat = x := by omega
        have hmvs := heapMoves_any Ac cc cs x wr w.heap.size hb.size ((HCODE.out.below hb hB).more hB) (by omega) HG.out
        have HMVS := Lib.hid hmvs; have HXN := Lib.hid hxn; have HRQ := Lib.hid hrq; have HB := Lib.hid hb
        have hzr := hb.size
        clear hmvs hx hgi hxn hrq hb
        go_wp2_with fail
        ((with_reducible refine (HMVS.out).mono ?_); rintro e w1 ⟨⟨v1, rfl, hv1⟩, hbm⟩)
        obtain ⟨M, AM, cM, rfl, hrM, hsM, hlM, hmM⟩ := hv1.mov
        have hm1 := HM.out.below hbm
        have hb1 := HB.out.trans (hbm.mono hzr)
        have hrq1 := HRQ.out.below hbm hBw
        have hz1 := hbm.size
        obtain ⟨lo2, hlo2⟩ : ∃ lo2, lo2 = wr.heap.size := ⟨_, rfl⟩
        obtain ⟨B2, hB2⟩ : ∃ B2, B2 = w1.heap.size := ⟨_, rfl⟩
        have hblk2 : ∀ j, (u5 : Value).ownBlock = some j → j < lo2 ∨ B2 ≤ j := fun j hj => .inl (by have := (HM.out.blk j hj).2; omega)
        have hrM1 : RdR w1 lo2 B2 AM cM M := by rw [hlo2, hB2]; exact hrM
        have hB1w : B1 ≤ w1.heap.size := by omega
        have hB2w : B2 ≤ w1.heap.size := by omega
        have hBl : B1 ≤ lo2 := by omega
        have hlB2 : lo2 ≤ B2 := by omega
        have HMM := Lib.hid hmM; have HLM := Lib.hid hlM
        have HEND : Hid (∀ x : List Int, reaP cs q (0) M M.length x ↔ optU cs q (0 + 1) x) := reaP_end cs q (0) hlt M (by rw [HXN.out]; exact HMM.out)
        have hm0 := hm1.congr (b' := (0) * 10000 + 0) (by omega) (fun x => reaP_zero cs q (0) M x)
        clear hv1 hrM hsM hlM hmM hbm hm1 hz1 hlo2 hB2 HRQ HB HM hzr hcn
        go_wp2
        go_loopw [5, 35] (fun v s wi => ∃ j : Nat, s = .int .i64 j ∧ j ≤ M.length ∧ MvW wi w.heap.size v ((0) * 10000 + j) (reaP cs q (0) M j) ∧ Below w.heap.size w wi ∧ RdI wi B1 (some ⟨b, o, none⟩) c1 q ∧ (∀ j, v.ownBlock = some j → j < lo1 ∨ B1 ≤ j) ∧ B1 ≤ wi.heap.size ∧ RdR wi lo2 B2 AM cM M ∧ (∀ j, v.ownBlock = some j → j < lo2 ∨ B2 ≤ j) ∧ B2 ≤ wi.heap.size) (fun _ s _ => M.length - (intOf s).toNat)
        case atStart => exact ⟨0, rfl, by omega, hm0, hb1, hrq1, HBLK.out, hB1w, hrM1, hblk2, hB2w⟩
        case round =>
          clear hm0 hb1 hrq1 hB1w hrM1 hblk2 hB2w HBLK
          obtain ⟨j, rfl, hj, hm, hb, hrq, hblk, hBw, hrM, hblk2, hB2w⟩ := hrel
          obtain ⟨wi, rfl⟩ : ∃ wi, wi = wr := ⟨_, rfl⟩
          have hzi := hb.size
          have hLM := HLM.out
          by_cases hlt2 : j < M.length
          · obtain ⟨bM, oM, rfl, hbM, hcM⟩ := hrM.at (j := j) hlt2
            obtain ⟨Aj, cj, hcj, hrj⟩ := hcM j hlt2
            clear hcM
            have hmv : isMv cs (gi q (0)).toNat (gl M j) := by rw [HXN.out]; exact (HMM.out _).1 (by rw [gl_lt hlt2]; exact List.getElem_mem hlt2)
            have hpos := isMv_pos hmv
            have HSUCC := Lib.hid (reaP_succ cs q (0) M j)
            obtain ⟨mv, hmvn⟩ : ∃ mv, mv = gl M j := ⟨_, rfl⟩
            rw [← hmvn] at hmv hpos hcj hrj HSUCC
            clear hmvn
            have hca := replaced_any (some ⟨b, o, none⟩) Aj c1 cj (0) q mv wi wi.heap.size (Nat.le_refl _) (hrq.more hBw) (hrj.more hB2w) hlt (by omega) (by omega)
            have eni : (((0) : Nat) : Int) = (0 : Int) := by first | rfl | omega
            rw [eni] at hca
            have HCA := Lib.hid hca
            have HM := Lib.hid hm; have HB := Lib.hid hb; have HRQ := Lib.hid hrq; have HBLK := Lib.hid hblk; have HRM := Lib.hid hrM; have HBLK2 := Lib.hid hblk2
            have hbd : (0) * 10000 + j ≤ 100000000 := by omega
            clear hca eni hpos hmv hrj hm hb hrq hblk hrM hblk2
            go_wp2_with fail
            ((with_reducible refine (HCA.out).mono ?_); rintro e w3 ⟨A3, c3, rfl, ho3, hb3⟩)
            have HO3 := Lib.hid ho3; have HB3 := Lib.hid hb3
            have hz3 := hb3.size
            clear ho3 hb3
            go_wp2_with (at_builtin; refine app_new rfl _ _ rfl w.heap.size _ ((0) * 10000 + j) _ (aft q (0) mv) A3 c3 HM.out hzi HB3.out (own_ints.1 HO3.out) _ rfl rfl rfl hbd ?_; intro v4 w4 hm4 hg4 hp4)
            have hza : (w3.alloc (.cells #[.slice A3 (aft q (0) mv).length c3] 22)).heap.size = w3.heap.size + 1 := by simp
            have hz4 := hg4.size
            have HM4 := Lib.hid hm4; have HG4 := Lib.hid hg4; have HP4 := Lib.hid hp4
            clear hm4 hg4 hp4
            go_roundw
            case rel =>
              have hb13 := gtr HB3.out (bel1 w3 (.cells #[.slice A3 (aft q (0) mv).length c3] 22))
              refine ⟨j + 1, by go_num, by omega, HM4.out.congr (by omega) HSUCC.out, (HB.out.trans (hb13.mono hzi)).grown HG4.out (by omega) (fun k hk => (HM.out.blk k hk).1), RdI.grownX (HRQ.out.below hb13 hBw) HLOQ.out HG4.out (by omega) HBLK.out, fun k hk => ?_, by omega, (HRM.out.below hb13 hB2w).grown HG4.out (by omega) HBLK2.out, fun k hk => ?_, by omega⟩
              · rcases HP4.out with e | e
                · rw [e] at hk; exact HBLK.out k hk
                · rw [e] at hk; injection hk with hk; omega
              · rcases HP4.out with e | e
                · rw [e] at hk; exact HBLK2.out k hk
                · rw [e] at hk; injection hk with hk; omega
            case measure => simp [intOf]; omega
          · obtain rfl : j = M.length := by omega
            have HM2 := Lib.hid (hm.congr (b' := (0 + 1) * 10000) (by omega) HEND.out)
            have HB := Lib.hid hb; have HRQ := Lib.hid hrq; have HBLK := Lib.hid hblk
            clear hm hb hrq hblk hrM hblk2
            go_wp2
            go_roundw
            case rel => exact ⟨0 + 1, by go_num, by omega, HM2.out, HB.out, HRQ.out, HBLK.out, hBw⟩
            case measure => simp [intOf]; omega
      · obtain ⟨b, o, hbo, hbB, hc⟩ := hrq.at (j := k + 1) hlt
        have hcn := hc (k + 1) hlt
        have hck := hc k (by omega)
        subst hbo
        clear hc
        have hk1 : (0 : Int) < (k : Int) + 1 := by omega
        by_cases heq : gi q (k + 1) = gi q k
        · have ht : (gi q k == gi q (k + 1)) = true := by simp [heq]
          have HE := Lib.hid heq; clear heq
          have HXL := Lib.hid (HM.out.congr (b' := (k + 1 + 1) * 10000) (Nat.mul_le_mul_right 10000 (Nat.le_succ (k + 1))) (fun x => (optU_skip cs q x (k + 1) (by omega) hlt HE.out).symm))
          have HRQ := Lib.hid hrq; have HB := Lib.hid hb
          clear HM hrq hb
          go_wp2
          go_roundw
          case rel => exact ⟨k + 1 + 1, by go_num, by omega, HXL.out, HB.out, HRQ.out, HBLK.out, hBw⟩
          case measure => simp [intOf]; omega
        · have ht : (gi q k == gi q (k + 1)) = false := by simp [Ne.symm heq]
          clear heq
          have hgi := HP.out.le (gi_mem hlt)
          obtain ⟨x, hx⟩ := Int.eq_ofNat_of_zero_le (show 0 ≤ gi q (k + 1) by omega)
          rw [hx] at hcn
          try rw [hx] at ht
          have hxx : x ≤ 20 := by omega
          have hxn : (gi q (k + 1)).toNat = x := by omega
          have hmvs := heapMoves_any Ac cc cs x wr w.heap.size hb.size ((HCODE.out.below hb hB).more hB) (by omega) HG.out
          have HMVS := Lib.hid hmvs; have HXN := Lib.hid hxn; have HRQ := Lib.hid hrq; have HB := Lib.hid hb
          have hzr := hb.size
          clear hmvs hx hgi hxn hrq hb
          go_wp2_with fail
          ((with_reducible refine (HMVS.out).mono ?_); rintro e w1 ⟨⟨v1, rfl, hv1⟩, hbm⟩)
          obtain ⟨M, AM, cM, rfl, hrM, hsM, hlM, hmM⟩ := hv1.mov
          have hm1 := HM.out.below hbm
          have hb1 := HB.out.trans (hbm.mono hzr)
          have hrq1 := HRQ.out.below hbm hBw
          have hz1 := hbm.size
          obtain ⟨lo2, hlo2⟩ : ∃ lo2, lo2 = wr.heap.size := ⟨_, rfl⟩
          obtain ⟨B2, hB2⟩ : ∃ B2, B2 = w1.heap.size := ⟨_, rfl⟩
          have hblk2 : ∀ j, (u5 : Value).ownBlock = some j → j < lo2 ∨ B2 ≤ j := fun j hj => .inl (by have := (HM.out.blk j hj).2; omega)
          have hrM1 : RdR w1 lo2 B2 AM cM M := by rw [hlo2, hB2]; exact hrM
          have hB1w : B1 ≤ w1.heap.size := by omega
          have hB2w : B2 ≤ w1.heap.size := by omega
          have hBl : B1 ≤ lo2 := by omega
          have hlB2 : lo2 ≤ B2 := by omega
          have HMM := Lib.hid hmM; have HLM := Lib.hid hlM
          have HEND : Hid (∀ x : List Int, reaP cs q (k + 1) M M.length x ↔ optU cs q (k + 1 + 1) x) := reaP_end cs q (k + 1) hlt M (by rw [HXN.out]; exact HMM.out)
          have hm0 := hm1.congr (b' := (k + 1) * 10000 + 0) (by omega) (fun x => reaP_zero cs q (k + 1) M x)
          clear hv1 hrM hsM hlM hmM hbm hm1 hz1 hlo2 hB2 HRQ HB HM hzr hcn
          go_wp2
          go_loopw [5, 35] (fun v s wi => ∃ j : Nat, s = .int .i64 j ∧ j ≤ M.length ∧ MvW wi w.heap.size v ((k + 1) * 10000 + j) (reaP cs q (k + 1) M j) ∧ Below w.heap.size w wi ∧ RdI wi B1 (some ⟨b, o, none⟩) c1 q ∧ (∀ j, v.ownBlock = some j → j < lo1 ∨ B1 ≤ j) ∧ B1 ≤ wi.heap.size ∧ RdR wi lo2 B2 AM cM M ∧ (∀ j, v.ownBlock = some j → j < lo2 ∨ B2 ≤ j) ∧ B2 ≤ wi.heap.size) (fun _ s _ => M.length - (intOf s).toNat)
          case atStart => exact ⟨0, rfl, by omega, hm0, hb1, hrq1, HBLK.out, hB1w, hrM1, hblk2, hB2w⟩
          case round =>
            clear hm0 hb1 hrq1 hB1w hrM1 hblk2 hB2w HBLK
            obtain ⟨j, rfl, hj, hm, hb, hrq, hblk, hBw, hrM, hblk2, hB2w⟩ := hrel
            obtain ⟨wi, rfl⟩ : ∃ wi, wi = wr := ⟨_, rfl⟩
            have hzi := hb.size
            have hLM := HLM.out
            by_cases hlt2 : j < M.length
            · obtain ⟨bM, oM, rfl, hbM, hcM⟩ := hrM.at (j := j) hlt2
              obtain ⟨Aj, cj, hcj, hrj⟩ := hcM j hlt2
              clear hcM
              have hmv : isMv cs (gi q (k + 1)).toNat (gl M j) := by rw [HXN.out]; exact (HMM.out _).1 (by rw [gl_lt hlt2]; exact List.getElem_mem hlt2)
              have hpos := isMv_pos hmv
              have HSUCC := Lib.hid (reaP_succ cs q (k + 1) M j)
              obtain ⟨mv, hmvn⟩ : ∃ mv, mv = gl M j := ⟨_, rfl⟩
              rw [← hmvn] at hmv hpos hcj hrj HSUCC
              clear hmvn
              have hca := replaced_any (some ⟨b, o, none⟩) Aj c1 cj (k + 1) q mv wi wi.heap.size (Nat.le_refl _) (hrq.more hBw) (hrj.more hB2w) hlt (by omega) (by omega)
              have eni : (((k + 1) : Nat) : Int) = (k : Int) + 1 := by first | rfl | omega
              rw [eni] at hca
              have HCA := Lib.hid hca
              have HM := Lib.hid hm; have HB := Lib.hid hb; have HRQ := Lib.hid hrq; have HBLK := Lib.hid hblk; have HRM := Lib.hid hrM; have HBLK2 := Lib.hid hblk2
              have hbd : (k + 1) * 10000 + j ≤ 100000000 := by omega
              clear hca eni hpos hmv hrj hm hb hrq hblk hrM hblk2
              go_wp2_with fail
              ((with_reducible refine (HCA.out).mono ?_); rintro e w3 ⟨A3, c3, rfl, ho3, hb3⟩)
              have HO3 := Lib.hid ho3; have HB3 := Lib.hid hb3
              have hz3 := hb3.size
              clear ho3 hb3
              go_wp2_with (at_builtin; refine app_new rfl _ _ rfl w.heap.size _ ((k + 1) * 10000 + j) _ (aft q (k + 1) mv) A3 c3 HM.out hzi HB3.out (own_ints.1 HO3.out) _ rfl rfl rfl hbd ?_; intro v4 w4 hm4 hg4 hp4)
              have hza : (w3.alloc (.cells #[.slice A3 (aft q (k + 1) mv).length c3] 22)).heap.size = w3.heap.size + 1 := by simp
              have hz4 := hg4.size
              have HM4 := Lib.hid hm4; have HG4 := Lib.hid hg4; have HP4 := Lib.hid hp4
              clear hm4 hg4 hp4
              go_roundw
              case rel =>
                have hb13 := gtr HB3.out (bel1 w3 (.cells #[.slice A3 (aft q (k + 1) mv).length c3] 22))
                refine ⟨j + 1, by go_num, by omega, HM4.out.congr (by omega) HSUCC.out, (HB.out.trans (hb13.mono hzi)).grown HG4.out (by omega) (fun k hk => (HM.out.blk k hk).1), RdI.grownX (HRQ.out.below hb13 hBw) HLOQ.out HG4.out (by omega) HBLK.out, fun k hk => ?_, by omega, (HRM.out.below hb13 hB2w).grown HG4.out (by omega) HBLK2.out, fun k hk => ?_, by omega⟩
                · rcases HP4.out with e | e
                  · rw [e] at hk; exact HBLK.out k hk
                  · rw [e] at hk; injection hk with hk; omega
                · rcases HP4.out with e | e
                  · rw [e] at hk; exact HBLK2.out k hk
                  · rw [e] at hk; injection hk with hk; omega
              case measure => simp [intOf]; omega
            · obtain rfl : j = M.length := by omega
              have HM2 := Lib.hid (hm.congr (b' := (k + 1 + 1) * 10000) (by omega) HEND.out)
              have HB := Lib.hid hb; have HRQ := Lib.hid hrq; have HBLK := Lib.hid hblk
              clear hm hb hrq hblk hrM hblk2
              go_wp2
              go_roundw
              case rel => exact ⟨k + 1 + 1, by go_num, by omega, HM2.out, HB.out, HRQ.out, HBLK.out, hBw⟩
              case measure => simp [intOf]; omega
    · obtain rfl : k = q.length := by omega
      have hS := sortedHeaps_of w.heap.size _ 200000 (optP cs q) _ (HM.out.congr (by omega) fun xs => optU_end cs q xs) (by omega)
      have HS := Lib.hid hS
      clear hS
      go_wp2_with (go_at_call 80; (with_reducible refine (HS.out).mono ?_); rintro e w1 ⟨v1, rfl, hv1, hb1, hz1⟩)
      go_ret
      exact ⟨⟨v1, rfl, hv1⟩, hb.trans hb1⟩
end Go.Proofs.Ytbledcogbkeneaa
namespace Go.Proofs.Ytbledcogbkeneaa
open Go.RowKit Go.Maps
set_option linter.unusedVariables false

theorem lit_bool {D : DataW Unit} {k : Lit} {z : DataW Unit} {p q r : Bool} (h1 : D.atKey k z = .lit (.bool p)) (h2 : D.atKey k z = .lit (.bool q)) (h3 : q = r) : p = r := by
  have := h1.symm.trans h2
  injection this with this
  injection this with this
  rw [this, h3]
theorem u8n (x : Nat) (h : x ≤ 20) : ((UInt8.ofNat x).toNat : Int) = x := by rw [UInt8.toNat_ofNat']; omega

set_option maxHeartbeats 800000 in
theorem keyOf_any (A : Option Addr) (c : Nat) (p : List Int) (w : World) (B : Nat) (hB : B ≤ w.heap.size) (h : RdI w B A c p) (hp : Hp 20 p) :
    Calls Try.prog 69 #[.slice A p.length c, .int .i64 0, .int .i64 0] w fun e w' => e = .returned (.string (kS p)) ∧ Below w.heap.size w w' := by
  have h1 := h.len
  have h2 := h.max
  have hl := hp.len
  have HP := Lib.hid hp; clear hp
  go_enter Try.func69, Try.ntmps69
  go_wp2
  go_loopw [7, 17] (fun v s wr => ∃ (k : Nat) (A1 : Option Addr) (c1 : Nat), s = .int .i64 k ∧ k ≤ p.length ∧ v = .slice A1 (k + 2) c1 ∧ Own wr w.heap.size 5 (.slice A1 (k + 2) c1) (bcells (kB (p.take k))) ∧ Below w.heap.size w wr) (fun _ s _ => p.length - (intOf s).toNat)
  case atStart => exact ⟨0, _, _, rfl, by omega, rfl, World.ownsRow_lit w #[.int .u8 0, .int .u8 0] 2 (Nat.le_refl _) (by unfold maxLen; omega) rfl, bel1 w _⟩
  case round =>
    obtain ⟨k, A1, c1, rfl, hk, rfl, ho, hb⟩ := hrel
    by_cases hlt : k < p.length
    · obtain ⟨b, o, rfl, hbB, hc⟩ := (h.below hb hB).at (j := k) hlt
      have hck := hc k hlt
      have hx20 := HP.out.le (gi_mem hlt)
      have HSN : Hid (kB (p.take (k + 1)) = kB (p.take k) ++ [UInt8.ofNat (gi p k).toNat]) := Lib.hid (by rw [take_succ_gi p k hlt]; simp [kB])
      obtain ⟨x, hx⟩ := Int.eq_ofNat_of_zero_le (show 0 ≤ gi p k by omega)
      have ex : (gi p k).toNat = x := by omega
      rw [ex] at HSN
      obtain ⟨u, hu⟩ : ∃ u, u = UInt8.ofNat x := ⟨_, rfl⟩
      have hun : (u.toNat : Int) = x := by rw [hu]; exact u8n x (by omega)
      rw [← hu] at HSN
      rw [hx, ← hun] at hck
      have hu20 : u.toNat ≤ 20 := by omega
      have hlk : (kB (p.take k)).length = k + 2 := by simp [kB]; omega
      have hw8 : IntKind.u8.wrap (u.toNat : Int) = (u.toNat : Int) := by
        simp [IntKind.wrap, IntKind.bits, IntKind.signed]; omega
      have HO := Lib.hid ho; have HLK := Lib.hid hlk
      have hzw := hb.size
      clear hc hx ex hu hun hx20 ho hlk
      go_wp2_with (at_builtin; refine append_byte rfl _ _ rfl w.heap.size (.slice A1 (k + 2) c1) (kB (p.take k)) rfl (HO.out.below (bel1 _ _)) wr.heap.size u rfl ((Blk.new _ _ _).cell 0) (by rw [HLK.out]; omega) (by simp; omega) ?_; intro A5 c5 w5 ho5 hb5 hg5; rw [HLK.out] at ho5 ⊢)
      have HO5 := Lib.hid ho5
      clear ho5 hg5
      go_roundw
      case rel => exact ⟨k + 1, A5, c5, by go_num, by omega, rfl, by rw [HSN.out]; exact HO5.out, hb.trans (((Below.refl _ _).alloc hzw _).trans hb5)⟩
      case measure => simp [intOf]; omega
    · obtain rfl : k = p.length := by omega
      rw [List.take_length] at ho
      have hback := own_back ho
      have HK : Hid (str (kB p) = kS p) := Lib.hid rfl
      obtain ⟨l, hl⟩ : ∃ l, l = kB p := ⟨_, rfl⟩
      rw [← hl] at hback HK
      clear hl
      go_wp2
      go_ret
      exact ⟨by rw [← HK.out]; rfl, hb⟩

set_option maxRecDepth 100000 in
set_option maxHeartbeats 800000 in
theorem mexI_any (A : Option Addr) (c : Nat) (xs : List Int) (w : World) (B : Nat) (hB : B ≤ w.heap.size) (h : RdI w B A c xs) (hl : xs.length ≤ 1000000) (hr : ∀ x ∈ xs, 0 ≤ x ∧ x ≤ 1000000) :
    Calls Try.prog 71 #[.slice A xs.length c] w fun e w' => ∃ n : Nat, e = .returned (.int .i64 n) ∧ (∀ j : Nat, j < n → (j : Int) ∈ xs) ∧ (n : Int) ∉ xs ∧ Below w.heap.size w w' := by
  have h1 := h.len
  have h2 := h.max
  have hmk := fun w : World => (run_makeMap (P := Try.prog) 89 w)
  go_enter Try.func71, Try.ntmps71
  go_wp2
  obtain ⟨b, hbe⟩ : ∃ b, b = w.heap.size := ⟨_, rfl⟩
  have hS0 := SeenM.new w
  have hbw := bel1 w (.map #[] 0)
  rw [← hbe] at hS0 ⊢
  have HBE := Lib.hid hbe
  generalize w.alloc (.map #[] 0) = W at *
  clear hbe hmk
  go_loopw [10] (fun s wr => ∃ k : Nat, s = .int .i64 k ∧ k ≤ xs.length ∧ SeenM wr b k (xs.take k) ∧ Below w.heap.size w wr) (fun s _ => xs.length - (intOf s).toNat)
  case atStart => exact ⟨0, rfl, by omega, hS0, hbw⟩
  case round =>
    clear hS0 hbw
    obtain ⟨k, rfl, hk, hS, hb⟩ := hrel
    obtain ⟨D, ho, hat⟩ := hS
    have hm := ho.isMap
    by_cases hlt : k < xs.length
    · obtain ⟨bx, o, rfl, hbB, hc⟩ := (h.below hb hB).at (j := k) hlt
      have hck := hc k hlt
      have hx := hr _ (gi_mem hlt)
      have hsn := take_succ_gi xs k hlt
      obtain ⟨x, hxx⟩ : ∃ x, x = gi xs k := ⟨_, rfl⟩
      rw [← hxx] at hck hx hsn
      have hkey := keyOf_int_mk (P := Try.prog) (k := 3) (q := .i64) Try.underlying3 (a := x) (by simp [Lit.wf, IntKind.min, IntKind.max, IntKind.signed, IntKind.bits]; omega)
      have hval : plainElem (H := Unit) Try.prog 4 (.bool true) = some (.lit (.bool true), []) := plainElem_bool Try.underlying4 true
      have hnl : k < maxLen := by unfold maxLen; omega
      have HAT := Lib.hid hat; have HSN := Lib.hid hsn
      clear hc hxx hat hsn
      go_wp2_with (first | (at_mapUpdate; refine wpList_mapUpdate_own _ rfl _ _ _ 89 rfl 3 4 keyedI Try.underlying89 _ b _ D rfl ho hnl _ _ _ rfl rfl hkey _ [] hval ?_; intro w3 ho3 hg3) | go_in)
      go_roundw
      case rel => exact ⟨k + 1, by go_num, by omega, by rw [HSN.out]; exact SeenM.put x hm HAT.out ho3, hb.grown hg3 hb.size fun g hg => by injection hg with hg; rw [← hg, HBE.out]; exact Nat.le_refl _⟩
      case measure => simp [intOf]; omega
    · obtain rfl : k = xs.length := by omega
      rw [List.take_length] at hat
      have HAT := Lib.hid hat
      clear hat hlt hk
      go_wp2
      obtain ⟨w1, rfl⟩ : ∃ w1, w1 = wr := ⟨_, rfl⟩
      go_loopw [6] (fun s wr => ∃ n : Nat, s = .int .i64 n ∧ (∀ j : Nat, j < n → (j : Int) ∈ xs) ∧ wr = w1) (fun s _ => xs.length + 1 - (intOf s).toNat)
      case atStart => exact ⟨0, rfl, fun j hj => by omega, rfl⟩
      case round =>
        obtain ⟨n, rfl, hn, hw⟩ := hrel
        have hw' := hw.symm
        subst hw'
        clear hw
        have hle := few_pre hn
        have HN := Lib.hid hn; clear hn
        have hkey := keyOf_int_mk (P := Try.prog) (k := 3) (q := .i64) Try.underlying3 (a := (n : Int)) (by simp [Lit.wf, IntKind.min, IntKind.max, IntKind.signed, IntKind.bits]; omega)
        by_cases hx : (n : Int) ∈ xs
        · have ht : decide ((n : Int) ∈ xs) = true := decide_eq_true hx
          have HX := Lib.hid hx; clear hx
          go_wp2_with (first | (at_lookup; refine wpList_lookup_own_bool _ rfl _ _ 89 rfl 3 4 keyedI Try.underlying89 Try.underlying4 (zeroBo _) b _ D rfl ho _ _ rfl hkey ?_; intro cb hcc; rw [lit_bool hcc (HAT.out n) ht]; clear hcc) | go_in)
          go_roundw
          case rel => exact ⟨n + 1, by go_num, fun j hj => if e : j = n then by rw [e]; exact HX.out else HN.out j (by omega), by first | rfl | trivial⟩
          case measure =>
            have := few_pre (n := n + 1) fun j hj => if e : j = n then by rw [e]; exact HX.out else HN.out j (by omega)
            simp [intOf]; omega
        · have ht : decide ((n : Int) ∈ xs) = false := decide_eq_false hx
          have HX := Lib.hid hx; clear hx
          go_wp2_with (first | (at_lookup; refine wpList_lookup_own_bool _ rfl _ _ 89 rfl 3 4 keyedI Try.underlying89 Try.underlying4 (zeroBo _) b _ D rfl ho _ _ rfl hkey ?_; intro cb hcc; rw [lit_bool hcc (HAT.out n) ht]; clear hcc) | go_in)
          go_ret
          exact ⟨n, rfl, HN.out, HX.out, hb⟩

theorem grown_new {u w w' : World} {b : Nat} {row : Option Nat} (h0 : u.grownBy w (some b)) (h : w.grownBy w' row) (hr : ∀ k, row = some k → u.heap.size ≤ k) : u.grownBy w' (some b) :=
  ⟨h.os.trans h0.os, h.tape.trans h0.tape, h.output.trans h0.output, Nat.le_trans h0.size h.size, fun k hk hb => (h.block k (by have := h0.size; omega) fun e => by have := hr k e.symm; omega).trans (h0.block k hk hb)⟩
theorem RdR.atL {w : World} {lo B c : Nat} {A : Option Addr} {xss : List (List Int)} (h : RdR w lo B A c xss) {j : Nat} (hj : j < xss.length) :
    ∃ b o, A = some ⟨b, o, none⟩ ∧ b < B ∧ ∃ Ai ci, w.cell? ⟨b, o + j, none⟩ = some (.slice Ai (gl xss j).length ci) ∧ RdI w B Ai ci (gl xss j) ∧ Lo lo Ai := by
  obtain ⟨cs, h1, hl, h2⟩ := h
  obtain ⟨b, o, hA, hb, hc⟩ := h1.at (j := j) (by rw [h2.1]; exact hj)
  obtain ⟨Ai, ci, k1, k2, k3⟩ := h2.2 j hj
  exact ⟨b, o, hA, hb, Ai, ci, hc j _ k1, k2, k3⟩
/-- What is known of the reached positions: the values of the first j. -/
theorem vals_mem {cs p : List Int} {L : List (List Int)} (hL : ∀ q, q ∈ L ↔ optP cs p q) (x : Int) : x ∈ L.map (fun q => ((mz cs q : Nat) : Int)) ↔ ∃ q, optP cs p q ∧ x = (mz cs q : Nat) := by
  rw [List.mem_map]
  constructor
  · rintro ⟨q, h, rfl⟩; exact ⟨q, (hL q).1 h, rfl⟩
  · rintro ⟨q, h, rfl⟩; exact ⟨q, (hL q).2 h, rfl⟩
theorem vals_snoc (cs : List Int) (L : List (List Int)) (j : Nat) (h : j < L.length) : (L.take (j + 1)).map (fun q => ((mz cs q : Nat) : Int)) = (L.take j).map (fun q => ((mz cs q : Nat) : Int)) ++ [((mz cs (gl L j) : Nat) : Int)] := by
  rw [List.take_succ_eq_append_getElem h, List.map_append, gl_lt h]
  rfl

set_option maxRecDepth 100000 in
set_option maxHeartbeats 3200000 in
theorem valI_any (cs : List Int) (hg : goodCode cs) (Ac : Option Addr) (cc B0 b : Nat) (hk0 : B0 ≤ b) : ∀ (m : Nat) (p : List Int) (w : World) (A : Option Addr) (c : Nat) (K : List (List Int)), Hp 20 p → sm p < m → MapM w b cs K → RdI w B0 Ac cc cs → RdI w w.heap.size A c p → (∀ a, A = some a → a.block ≠ b) →
    Calls Try.prog 54 #[.agg #[.slice Ac cs.length cc, .map (some b)], .slice A p.length c, .int .i64 0, .int .i64 0] w fun e w' =>
      e = .returned (.int .i64 (mz cs p : Nat)) ∧ (∃ K', MapM w' b cs K' ∧ ∀ t ∈ K', t ∈ K ∨ sm t ≤ sm p) ∧ w.grownBy w' (some b) := by
  intro m
  induction m with
  | zero => intro p w A c K hp hs; have := hp.nonneg; omega
  | succ m ih =>
    intro p w A c K hp hsm hM hcode hr hne
    have HI := Lib.hid ih; clear ih
    have HP := Lib.hid hp; have HNE := Lib.hid hne; have HSM := Lib.hid hsm
    have hlen := hp.len
    have hbl := hM.lt
    have hrl := hr.len
    have hrm := hr.max
    have HR := Lib.hid hr; have HCODE := Lib.hid hcode; have HG := Lib.hid hg
    have HM := Lib.hid hM
    have hks := kS_size p
    clear hM hr hcode hp hne hsm hg
    obtain ⟨W, hW⟩ : ∃ W, W = w.alloc (.cells #[.slice Ac cs.length cc, .map (some b)] 52) := ⟨_, rfl⟩
    have hbW : Below w.heap.size w W := by rw [hW]; exact bel1 _ _
    have hBX : Blk W w.heap.size 52 #[.slice Ac cs.length cc, .map (some b)] := by rw [hW]; exact Blk.new _ _ _
    have hzW : W.heap.size = w.heap.size + 1 := by rw [hW]; simp
    go_enter Try.func54, Try.ntmps54
    go_wp2_with fail
    rw [← hW]
    clear hW
    have hkey1 := keyOf_any A c p W W.heap.size (Nat.le_refl _) ((HR.out.below hbW (Nat.le_refl _)).more (by omega)) HP.out
    ((with_reducible refine (hkey1).mono ?_); rintro e w1 ⟨rfl, hb1⟩)
    have g1 := gtr hbW hb1
    have hz1 := hb1.size
    have hM1 := HM.out.kept (belowG g1 none) (by simp)
    have hBX1 := hBX.below hb1 (by omega)
    have q0 : w1.cell? ⟨w.heap.size, 0, none⟩ = some (.slice Ac cs.length cc) := hBX1.cell 0
    have q1 : w1.cell? ⟨w.heap.size, 1, none⟩ = some (.map (some b)) := hBX1.cell 1
    have hkey := WideMaps.keyOf_string_mk (P := Try.prog) (k := 9) Try.underlying9 (s := kS p) (by unfold maxLen; omega)
    have HBX1 := Lib.hid hBX1; have HG1 := Lib.hid g1
    clear hBX1 g1 hb1 hBX hbW
    by_cases hin : p ∈ K
    · have HM1 := Lib.hid hM1
      obtain ⟨D, ho, hd, hK, hh, ha⟩ := hM1
      have hhit : Maps.has D (.string (kS p).data.toList) = true := (hh p HP.out).2 hin
      have hval := ha p hin
      clear hd hK hh ha
      go_wp2_with (first | (at_lookup; refine wpList_lookup_own_ok_int _ rfl _ _ 50 rfl 9 3 .i64 keyedSt Try.underlying50 Try.underlying3 (zeroIn _) b _ D rfl ho _ _ rfl hkey ?_; intro ci hat hwc; rw [hhit]; have HAT := Lib.hid (hat.symm.trans hval); clear hat hval) | go_in)
      go_ret
      have hc : ci = (mz cs p : Nat) := by have := HAT.out; injection this with this; injection this
      exact ⟨by rw [hc]; rfl, ⟨K, HM1.out, fun t ht => .inl ht⟩, belowG HG1.out _⟩
    · have HM1 := Lib.hid hM1
      obtain ⟨D, ho, hd, hK, hh, ha⟩ := hM1
      have hmiss : Maps.has D (.string (kS p).data.toList) = false := by rw [Bool.eq_false_iff]; exact fun h => hin ((hh p HP.out).1 h)
      clear hd hK hh ha
      have hbL := bel1 w1 (.cells #[] 3)
      have hzL : (w1.alloc (.cells #[] 3)).heap.size = w1.heap.size + 1 := by simp
      have hcodeL : RdI (w1.alloc (.cells #[] 3)) (w1.alloc (.cells #[] 3)).heap.size Ac cc cs := (HCODE.out.below (gtr HG1.out hbL) (by omega)).more (by omega)
      have hrL : RdI (w1.alloc (.cells #[] 3)) (w1.alloc (.cells #[] 3)).heap.size A c p := (HR.out.below (gtr HG1.out hbL) (Nat.le_refl _)).more (by omega)
      have hrch := reached_any cs HG.out Ac A cc c p p _ _ (Nat.le_refl _) hcodeL hrL (nz_self HP.out.1).symm HP.out (fun x hx => by have := HP.out.1 x hx; omega) (by omega)
      have q0L : (w1.alloc (.cells #[] 3)).cell? ⟨w.heap.size, 0, none⟩ = some (.slice Ac cs.length cc) := (HBX1.out.alloc _).cell 0
      have HRCH := Lib.hid hrch
      clear hrch hrL hcodeL
      go_wp2_with (first | (at_lookup; refine wpList_lookup_own_ok_int _ rfl _ _ 50 rfl 9 3 .i64 keyedSt Try.underlying50 Try.underlying3 (zeroIn _) b _ D rfl ho _ _ rfl hkey ?_; intro ci hat hwc; rw [hmiss]; clear hat hwc) | (go_at_call 70; (with_reducible refine (HRCH.out).mono ?_); rintro e w2 ⟨⟨v1, rfl, hv1⟩, hb2⟩; obtain ⟨L, AM, cM, rfl, hrM, hsM, hlM, hmM⟩ := hv1.mov) | go_in)
      have HLM := Lib.hid hlM; have HMM := Lib.hid hmM
      have g2 := gtr HG1.out (gtr hbL hb2)
      have hM2 := HM1.out.kept (belowG (gtr hbL hb2) none) (by simp)
      have hBX2 := (HBX1.out.alloc (.cells #[] 3)).below hb2 (by omega)
      have ho2 : Own w2 w1.heap.size 3 (.slice (some ⟨w1.heap.size, 0, none⟩) 0 0) (ints []) := (Own.empty w1 3 3 _ (Nat.le_refl _)).below hb2
      have hz2 := hb2.size
      obtain ⟨lo1, hlo1⟩ : ∃ lo1, lo1 = w1.heap.size := ⟨_, rfl⟩
      obtain ⟨lo2, hlo2⟩ : ∃ lo2, lo2 = (w1.alloc (.cells #[] 3)).heap.size := ⟨_, rfl⟩
      obtain ⟨B2, hB2⟩ : ∃ B2, B2 = w2.heap.size := ⟨_, rfl⟩
      have hrM2 : RdR w2 lo2 B2 AM cM L := by rw [hlo2, hB2]; exact hrM
      have hblk : ∀ k, (Value.slice (some ⟨w1.heap.size, 0, none⟩) 0 0).ownBlock = some k → k < lo2 ∨ B2 ≤ k := fun k hk => by
        have hk : w1.heap.size = k := by injection hk
        left; omega
      have ho2 : Own w2 lo1 3 (.slice (some ⟨w1.heap.size, 0, none⟩) 0 0) (ints []) := by rw [hlo1]; exact ho2
      have hl1 : w.heap.size < lo1 := by omega
      have hl12 : lo1 ≤ lo2 := by omega
      have hl2B : lo2 ≤ B2 := by omega
      have hB2w : B2 ≤ w2.heap.size := by omega
      have hgr2 : w.grownBy w2 (some b) := belowG g2 _
      have hlo1w : lo1 ≤ w2.heap.size := by omega
      clear hrM hsM hlM hmM hv1 g2 hb2 hbL hzL ho hmiss HRCH q0L q0 q1 hz2 hlo1 hlo2 hB2 HBX1 HM1 HG1 hkey1 hzW hz1
      go_wp2
      go_loopw [12, 35] (fun v s wi => ∃ (j : Nat) (A2 : Option Addr) (c2 : Nat) (ys : List Int) (K' : List (List Int)), s = .int .i64 j ∧ j ≤ L.length ∧ ys = (L.take j).map (fun q => ((mz cs q : Nat) : Int)) ∧ v = .slice A2 ys.length c2 ∧ Own wi lo1 3 (.slice A2 ys.length c2) (ints ys) ∧ MapM wi b cs K' ∧ (∀ t ∈ K', t ∈ K ∨ sm t < sm p) ∧ w.grownBy wi (some b) ∧ Blk wi w.heap.size 52 #[.slice Ac cs.length cc, .map (some b)] ∧ RdR wi lo2 B2 AM cM L ∧ (∀ k, (Value.slice A2 ys.length c2).ownBlock = some k → k < lo2 ∨ B2 ≤ k) ∧ B2 ≤ wi.heap.size) (fun _ s _ => L.length - (intOf s).toNat)
      case atStart => exact ⟨0, _, _, [], K, rfl, by omega, rfl, rfl, ho2, hM2, fun t ht => .inl ht, hgr2, hBX2, hrM2, hblk, hB2w⟩
      case round =>
        clear ho2 hM2 hgr2 hBX2 hrM2 hblk hB2w hlo1w
        obtain ⟨j, A2, c2, ys, K', rfl, hj, hys, rfl, ho, hM, hKR, hgr, hBX, hrM, hblk, hBw⟩ := hrel
        have hLM := HLM.out
        have hyl : ys.length ≤ 200000 := by rw [hys, List.length_map, List.length_take]; omega
        have HKR := Lib.hid hKR; clear hKR
        have hsm0 := HP.out.nonneg
        by_cases hlt : j < L.length
        · obtain ⟨bM, oM, hAM, hbM, hcM⟩ := hrM.atL hlt
          obtain ⟨Aj, cj, hcj, hrj, hloj⟩ := hcM
          subst hAM
          have hopt := (HMM.out (gl L j)).1 (by rw [gl_lt hlt]; exact List.getElem_mem hlt)
          have hq2 := hp_opt HP.out hopt
          have hsn := vals_snoc cs L j hlt
          rw [← hys] at hsn
          obtain ⟨q, hq⟩ : ∃ q, q = gl L j := ⟨_, rfl⟩
          rw [← hq] at hcj hrj hq2 hsn
          have hsq : sm q < m := by have := HSM.out; omega
          have hcall := HI.out q wr Aj cj K' hq2.1 hsq hM (Rd.grown (lo := 0) HCODE.out Lo.zero hgr (by omega) fun k hk => by injection hk with hk; omega) (hrj.more hBw) (fun a ha => by have := hloj a ha; omega)
          have HCALL := Lib.hid hcall; have HSN := Lib.hid hsn; have HO := Lib.hid ho; have HGR := Lib.hid hgr; have HRM := Lib.hid hrM; have HBLK := Lib.hid hblk; have HQ2 := Lib.hid hq2.2
          have q0 : wr.cell? ⟨w.heap.size, 0, none⟩ = some (.slice Ac cs.length cc) := hBX.cell 0
          have q1 : wr.cell? ⟨w.heap.size, 1, none⟩ = some (.map (some b)) := hBX.cell 1
          have HBX := Lib.hid hBX
          have hzw := hgr.size
          clear hcall hsn ho hgr hrM hblk hq2 hM hBX hrj hloj hopt hq hys hsq
          go_wp2_with fail
          ((with_reducible refine (HCALL.out).mono ?_); rintro e w3 ⟨rfl, ⟨K3, hM3, hK3⟩, hg3⟩)
          obtain ⟨u, hu⟩ : ∃ u, u = mz cs q := ⟨_, rfl⟩
          rw [← hu] at HSN ⊢
          clear hu q0 q1
          have hz3 := hg3.size
          have HO3 := Lib.hid (HO.out.grown hg3 (by
            rcases hob : (Value.slice A2 ys.length c2).ownBlock with _ | k
            · exact .inl rfl
            · refine .inr fun e => ?_
              injection e with e
              have := (HO.out.lt k hob).1
              omega))
          have HRM3 := Lib.hid (HRM.out.grown hg3 hBw fun k hk => by injection hk with hk; omega)
          have HBX3 := Lib.hid (HBX.out.grown hg3 (by simp; omega))
          have HM3 := Lib.hid hM3; have HK3 := Lib.hid hK3; have HG3 := Lib.hid (HGR.out.trans hg3)
          clear hM3 hK3 hg3
          go_wp2_with (at_builtin; refine append_int_at rfl _ _ rfl lo1 (.slice A2 ys.length c2) ys rfl (own_ints.2 (HO3.out.below (bel1 _ _))) w3.heap.size u rfl (Blk.new _ _ _) (by omega) (by simp; omega) ?_; intro A5 c5 w5 ho5 hb5 hg5 hp5)
          have hz5 := hg5.size
          have hza : (w3.alloc (.cells #[.int .i64 u] 3)).heap.size = w3.heap.size + 1 := by simp
          have HO5 := Lib.hid ho5; have HG5 := Lib.hid hg5; have HP5 := Lib.hid hp5
          clear ho5 hb5 hg5 hp5
          go_roundw
          case rel =>
            have hbase : ∀ k, (Value.slice A2 ys.length c2).ownBlock = some k → lo1 ≤ k := fun k hk => (HO3.out.lt k hk).1
            have ey : (ys ++ [(u : Int)]).length = ys.length + 1 := by simp
            have hgA : w3.grownBy w5 (Value.slice A2 ys.length c2).ownBlock := (belowG (bel1 w3 (.cells #[.int .i64 u] 3)) _).trans HG5.out
            refine ⟨j + 1, A5, c5, ys ++ [(u : Int)], K3, by go_num, by omega, HSN.out.symm, by rw [ey], by rw [ey]; exact own_ints.1 HO5.out, HM3.out.kept hgA (fun e => by have := hbase b e.symm; have := HM3.out.lt; omega), fun t ht => ?_, grown_new HG3.out hgA (fun k hk => by have := hbase k hk; omega), HBX3.out.grown hgA (fun e => by have := hbase _ e.symm; omega), HRM3.out.grown hgA (by omega) HBLK.out, fun k hk => ?_, by omega⟩
            · rcases HK3.out t ht with h | h
              · exact HKR.out t h
              · exact .inr (by have := HQ2.out; omega)
            · rw [ey] at hk
              rcases HP5.out with e | e
              · rw [e] at hk; exact HBLK.out k hk
              · rw [e] at hk; injection hk with hk; omega
          case measure => simp [intOf]; omega
        · obtain rfl : j = L.length := by omega
          rw [List.take_length] at hys
          have hml := mz_list (xs := ys) HP.out fun x => by rw [hys]; exact vals_mem HMM.out x
          have HMr := Lib.hid hM; have HGR := Lib.hid hgr
          have q1 : wr.cell? ⟨w.heap.size, 1, none⟩ = some (.map (some b)) := hBX.cell 1
          by_cases hxs : ys = []
          · have HV : Hid (mz cs p = 1) := hml.1 hxs
            subst hxs
            clear hml ho hlt hM hgr hBX hrM hblk hys
            have hnin : p ∉ K' := fun h => by
              rcases HKR.out p h with h | h
              · exact hin h
              · omega
            obtain ⟨D2, ho2, hd2, hK2, hh2, ha2⟩ := HMr.out
            have hfew := fewP hd2 hK2
            have hnl : K'.length < maxLen := by unfold maxLen; omega
            have hm2 := ho2.isMap
            have h21 := mz_le20 (cs := cs) HP.out
            rw [HV.out] at h21
            have hval : plainElem (H := Unit) Try.prog 3 (.int .i64 1) = some (.lit (.int .i64 1), []) := plainElem_int Try.underlying3 (by simp [Lit.wf, IntKind.min, IntKind.max, IntKind.signed, IntKind.bits] <;> omega)
            have HD2 := Lib.hid hd2; have HK2 := Lib.hid hK2; have HH2 := Lib.hid hh2; have HA2 := Lib.hid ha2
            clear hd2 hK2 hh2 ha2
            go_wp2_with (first | (at_mapUpdate; refine wpList_mapUpdate_own _ rfl _ _ _ 50 rfl 9 3 keyedSt Try.underlying50 _ b _ D2 rfl ho2 hnl _ _ _ rfl rfl hkey _ [] hval ?_; intro w9 ho9 hg9) | go_in)
            go_ret
            refine ⟨by rw [HV.out]; rfl, ⟨p :: K', MapM.put p HP.out hnin hm2 HD2.out HK2.out HH2.out HA2.out (by rw [HV.out]; exact ho9), fun t ht => ?_⟩, HGR.out.trans hg9⟩
            rcases List.mem_cons.1 ht with rfl | ht
            · exact .inr (Int.le_refl _)
            · rcases HKR.out t ht with h | h
              · exact .inl h
              · exact .inr (by omega)
          · have hpos := List.length_pos_iff.2 hxs
            have HML := Lib.hid (hml.2 hxs)
            have hrange : ∀ x ∈ ys, 0 ≤ x ∧ x ≤ 1000000 := fun x hx => by
              rw [hys] at hx
              obtain ⟨q, hq, rfl⟩ := List.mem_map.1 hx
              have := mz_le20 (cs := cs) (hp_opt HP.out ((HMM.out q).1 hq)).1
              omega
            have hrx := (own_ints.2 ho).rd rfl
            have hcallm := mexI_any A2 c2 ys wr wr.heap.size (Nat.le_refl _) hrx (by omega) hrange
            have HCM := Lib.hid hcallm
            have HBX := Lib.hid hBX
            have hblt := HMr.out.lt
            clear hml hxs hrx hlt ho hM hgr hBX hrM hblk hys hrange hcallm q1
            go_wp2_with fail
            ((with_reducible refine (HCM.out).mono ?_); rintro e w3 ⟨v, rfl, hv1, hv2, hb3⟩)
            have HV : Hid (mz cs p = v) := HML.out v hv1 hv2
            have HMr := Lib.hid (HMr.out.kept (belowG hb3 none) (by simp))
            have HGR := Lib.hid (HGR.out.trans (belowG hb3 (some b)))
            have q1 : w3.cell? ⟨w.heap.size, 1, none⟩ = some (.map (some b)) := (HBX.out.below hb3 HBX.out.lt).cell 1
            clear hv1 hv2 hpos hb3
            have hnin : p ∉ K' := fun h => by
              rcases HKR.out p h with h | h
              · exact hin h
              · omega
            obtain ⟨D2, ho2, hd2, hK2, hh2, ha2⟩ := HMr.out
            have hfew := fewP hd2 hK2
            have hnl : K'.length < maxLen := by unfold maxLen; omega
            have hm2 := ho2.isMap
            have h21 := mz_le20 (cs := cs) HP.out
            rw [HV.out] at h21
            have hval : plainElem (H := Unit) Try.prog 3 (.int .i64 v) = some (.lit (.int .i64 v), []) := plainElem_int Try.underlying3 (by simp [Lit.wf, IntKind.min, IntKind.max, IntKind.signed, IntKind.bits] <;> omega)
            have HD2 := Lib.hid hd2; have HK2 := Lib.hid hK2; have HH2 := Lib.hid hh2; have HA2 := Lib.hid ha2
            clear hd2 hK2 hh2 ha2
            go_wp2_with (first | (at_mapUpdate; refine wpList_mapUpdate_own _ rfl _ _ _ 50 rfl 9 3 keyedSt Try.underlying50 _ b _ D2 rfl ho2 hnl _ _ _ rfl rfl hkey _ [] hval ?_; intro w9 ho9 hg9) | go_in)
            go_ret
            refine ⟨by rw [HV.out]; rfl, ⟨p :: K', MapM.put p HP.out hnin hm2 HD2.out HK2.out HH2.out HA2.out (by rw [HV.out]; exact ho9), fun t ht => ?_⟩, HGR.out.trans hg9⟩
            rcases List.mem_cons.1 ht with rfl | ht
            · exact .inr (Int.le_refl _)
            · rcases HKR.out t ht with h | h
              · exact .inl h
              · exact .inr (by omega)
end Go.Proofs.Ytbledcogbkeneaa
