/- replaced, filled, reached, together of the program: contracts. Conditions: none. -/
import Derived.Test.YtdckgplmkigjcaaConc
import Derived.Test.YtdckgplmkigjcaaSort
import Derived.Test.YtdckgplmkigjcaaHmI
import Derived.LoopTactic
namespace Go.Proofs.Ytdckgplmkigjcaa
open Go.RowKit
set_option linter.unusedVariables false

theorem Blk.drew' {w : World} {g : Nat} {t : TypeId} {cs : Array Value} (h : Blk w g t cs) : Blk w.drew g t cs := h
theorem ins_nil (w : World) : Calls Try.prog 134 #[.slice none 0 0, .int .i64 0, .int .i64 0] w fun e w' => e = .returned (.tuple #[]) ∧ w' = w := by
  go_enter Try.func134, Try.ntmps134
  go_wp2
  refine wp_loop_rounds 1 ?_
  rw [rounds_succ]
  go_wp2
  go_end0
  exact ⟨rfl, rfl⟩
theorem pdq_nil (w : World) (u : Value) : Calls Try.prog 122 #[.slice none 0 0, .int .i64 0, .int .i64 0, u] w fun e w' => e = .returned (.tuple #[]) ∧ w' = w := by
  go_enter Try.func122, Try.ntmps122
  go_wp2
  refine wp_loop_rounds 1 ?_
  rw [rounds_succ]
  go_wp2_with (go_at_call 134; (with_reducible refine (ins_nil _).mono ?_); rintro e w1 ⟨rfl, rfl⟩)
  exact bodyPost_ret (results_none rfl _ _ _) rfl ⟨rfl, rfl⟩
theorem len_zero (w : World) : Calls Try.prog 117 #[.int .u64 0] w fun e w' => e = .returned (.int .i64 0) ∧ w' = w := by
  go_enter Try.func117, Try.ntmps117
  go_wp2
  go_ret
  exact ⟨by kernel_rfl, rfl⟩
theorem sort_nil (w : World) : Calls Try.prog 115 #[.slice none 0 0] w fun e w' => e = .returned (.tuple #[]) ∧ Below w.heap.size w w' := by
  go_enter Try.func115, Try.ntmps115
  go_wp2_with (first
    | (go_at_call 117; (with_reducible refine (len_zero _).mono ?_); rintro e w1 ⟨rfl, rfl⟩)
    | (go_at_call 122; (with_reducible refine (pdq_nil _ _).mono ?_); rintro e w2 ⟨rfl, rfl⟩))
  go_end0
  exact ⟨rfl, Below.refl _ _⟩
theorem sortO_any (A : Option Addr) (c base : Nat) (xs : List Int) (w : World) (hn : xs.length ≤ 1000000) (hbase : base ≤ w.heap.size) (ho : Own w base 3 (.slice A xs.length c) (ints xs)) :
    Calls Try.prog 115 #[.slice A xs.length c] w fun e w' => e = .returned (.tuple #[]) ∧ Own w' base 3 (.slice A xs.length c) (ints (srt xs)) ∧ Below base w w' := by
  rcases ho.2 with ⟨hv, h0⟩ | ⟨g, cap, cur, hv, r⟩
  · injection hv with h1 h2 h3
    subst h1 h3
    have hx : xs = [] := List.eq_nil_of_length_eq_zero h2
    subst hx
    refine (sort_nil w).mono ?_
    rintro e w' ⟨rfl, hb⟩
    have e0 : srt [] = [] := by simp [srt]
    rw [e0]
    exact ⟨rfl, ⟨rfl, .inl ⟨rfl, rfl⟩⟩, hb.mono hbase⟩
  · injection hv with h1 h2 h3
    subst h1 h3
    exact sort_any g c base xs w hn ho

set_option maxHeartbeats 800000 in
theorem filled_any (A : Option Addr) (c : Nat) (xs : List Int) (w : World) (B : Nat) (hB : B ≤ w.heap.size) (h : RdI w B A c xs) (hp : ∀ x ∈ xs, 0 ≤ x) (hl : xs.length ≤ 1000000) :
    Calls Try.prog 72 #[.slice A xs.length c] w (RetI w (nz xs)) := by
  have h1 := h.len
  have h2 := h.max
  go_enter Try.func72, Try.ntmps72
  go_wp2
  go_loopw [3, 9] (fun v s wr => ∃ (k : Nat) (A1 : Option Addr) (c1 : Nat) (zs : List Int), s = .int .i64 k ∧ k ≤ xs.length ∧ zs = nz (xs.take k) ∧ v = .slice A1 zs.length c1 ∧ Own wr w.heap.size 3 (.slice A1 zs.length c1) (ints zs) ∧ Below w.heap.size w wr) (fun _ s _ => xs.length - (intOf s).toNat)
  case atStart => exact ⟨0, _, _, [], rfl, by omega, rfl, rfl, Own.empty w 3 3 _ (Nat.le_refl _), bel1 w _⟩
  case round =>
    obtain ⟨k, A1, c1, zs, rfl, hk, hzs, rfl, ho, hb⟩ := hrel
    by_cases hlt : k < xs.length
    · obtain ⟨b, o, rfl, hbB, hc⟩ := (h.below hb hB).at (j := k) hlt
      have hck := hc k hlt
      have hx0 := hp _ (gi_mem hlt)
      have hsn := nz_snoc (xs.take k) (gi xs k)
      rw [← take_succ_gi xs k hlt, ← hzs] at hsn
      obtain ⟨x, hx⟩ : ∃ x, x = gi xs k := ⟨_, rfl⟩
      rw [← hx] at hck hsn hx0
      have hzl : zs.length ≤ xs.length := by rw [hzs]; exact Nat.le_trans (nz_len _) (by rw [List.length_take]; omega)
      clear hc hx hzs h
      by_cases hx1 : x = 0
      · rw [if_pos hx1] at hsn
        have hng : ¬ (0 : Int) < x := by omega
        have HSN := Lib.hid hsn; have HO := Lib.hid ho
        clear hsn ho hx1
        go_wp2
        go_roundw
        case rel => exact ⟨k + 1, A1, c1, zs, by go_num, by omega, HSN.out.symm, rfl, HO.out, hb⟩
        case measure => simp [intOf]; omega
      · rw [if_neg hx1] at hsn
        have hng : (0 : Int) < x := by omega
        have HSN := Lib.hid hsn; have HO := Lib.hid ho
        have hzw := hb.size
        clear hsn ho hx1
        go_wp2_with (at_builtin; refine append_int rfl _ _ rfl w.heap.size (.slice A1 zs.length c1) zs rfl (own_ints.2 (HO.out.below (bel1 _ _))) wr.heap.size x rfl ((Blk.new _ _ _).cell 0) (by omega) (by simp; omega) ?_; intro A5 c5 w5 ho5 hb5 hg5)
        have HO5 := Lib.hid ho5
        clear ho5 hg5
        go_roundw
        case rel => exact ⟨k + 1, A5, c5, zs ++ [x], by go_num, by omega, HSN.out.symm, by simp, by rw [List.length_append]; exact own_ints.1 HO5.out, hb.trans (((Below.refl _ _).alloc hzw _).trans hb5)⟩
        case measure => simp [intOf]; omega
    · obtain rfl : k = xs.length := by omega
      rw [List.take_length] at hzs
      have HZ := Lib.hid hzs
      clear hzs
      go_wp2
      go_ret
      rw [← HZ.out]
      exact ⟨A1, c1, rfl, own_ints.2 ho, hb⟩

set_option maxRecDepth 100000 in
set_option maxHeartbeats 1600000 in
theorem replaced_any (A A' : Option Addr) (c c' i : Nat) (p mv : List Int) (w : World) (B : Nat) (hB : B ≤ w.heap.size) (h : RdI w B A c p) (h' : RdI w B A' c' mv) (hi : i < p.length) (hl : p.length ≤ 1000) (hm : mv.length ≤ 1000) :
    Calls Try.prog 108 #[.slice A p.length c, .int .i64 i, .slice A' mv.length c'] w (RetI w (aft p i mv)) := by
  have h1 := h.len
  have h2 := h.max
  have h3 := h'.len
  have h4 := h'.max
  have HLEN : Hid ([p.take i, p.drop (i + 1), mv].flatten.length ≤ 1000000) := Lib.hid (by simp; omega)
  have HFL : Hid ([p.take i, p.drop (i + 1), mv].flatten = aft0 p i mv) := Lib.hid (by simp [aft0])
  obtain ⟨b, o, rfl, hbB, hc⟩ := h.at (j := i) hi
  clear hc
  have hiI : (i : Int) < (p.length : Int) := by omega
  have hi0 : (0 : Int) ≤ (i : Int) := by omega
  have hsl0 := slice_to b o p.length c i (by omega)
  have hsl := slice_from b o p.length c i hi
  have hww : IntKind.i64.wrap ((i : Int) + 1) = (i : Int) + 1 := by rw [IntKind.wrap_i64]; omega
  have hcut := Rd.cut h (i + 1) (by rw [ints_len]; omega)
  have htk := Rd.take h i
  obtain ⟨A2, hA2⟩ : ∃ A2, A2 = (if c = i + 1 then (some ⟨b, o, none⟩ : Option Addr) else some ⟨b, o + (i + 1), none⟩) := ⟨_, rfl⟩
  have hA3 : (if c = i + 1 then (some ⟨b, o, none⟩ : Option Addr) else (some (⟨b, o, none⟩ : Addr)).map (·.add (i + 1))) = A2 := by
    rw [hA2]; simp [add_none]
  rw [hA3] at hcut
  rw [← hA2] at hsl
  clear hA2 hA3
  have hr1 : RdI w B (some ⟨b, o, none⟩) c (p.take i) := by
    have : ints (p.take i) = (ints p).take i := by simp [ints, List.map_take]
    unfold RdI; rw [this]; exact htk
  have hr2 : RdI w B A2 (c - (i + 1)) (p.drop (i + 1)) := by
    have : ints (p.drop (i + 1)) = (ints p).drop (i + 1) := by simp [ints, List.map_drop]
    unfold RdI; rw [this]; exact hcut
  have e1 : (p.take i).length = i := by rw [List.length_take]; omega
  have e2 : (p.drop (i + 1)).length = p.length - (i + 1) := by rw [List.length_drop]
  have HR1 := Lib.hid hr1; have HR2 := Lib.hid hr2; have HR3 := Lib.hid h'
  have E1 := Lib.hid e1; have E2 := Lib.hid e2
  clear hr1 hr2 hcut htk e1 e2 h h'
  go_enter Try.func108, Try.ntmps108
  go_wp2
  refine wp_region_tail 8 (by kernel_rfl) (by kernel_rfl) ?_
  simp only [List.take_succ_cons, List.take_zero, List.drop_succ_cons, List.drop_zero]
  repeat (go_big_quiet_step (fail))
  refine wpQuiet_nil ?_
  have hx3 : RdR (w.alloc (.cells #[.slice (some ⟨b, o, none⟩) i c, .slice A2 (p.length - (i + 1)) (c - (i + 1)), .slice A' mv.length c'] 22)).drew 0 (w.heap.size + 1) (some ⟨w.heap.size, 0, none⟩) 3 [p.take i, p.drop (i + 1), mv] := by
    have hbw : Below w.heap.size w (w.alloc (.cells #[.slice (some ⟨b, o, none⟩) i c, .slice A2 (p.length - (i + 1)) (c - (i + 1)), .slice A' mv.length c'] 22)).drew := (bel1 w _).drew
    refine ⟨[.slice (some ⟨b, o, none⟩) i c, .slice A2 (p.length - (i + 1)) (c - (i + 1)), .slice A' mv.length c'], Rd.of_lit (Blk.drew' (Blk.new w 22 _)) (by omega) (by simp), Lo.zero, rfl, fun t ht => ?_⟩
    rcases t with _ | _ | _ | t
    · exact ⟨_, _, by rw [show gl [p.take i, p.drop (i + 1), mv] 0 = p.take i from rfl, E1.out]; rfl, (HR1.out.below hbw hB).more (by omega), Lo.zero⟩
    · exact ⟨_, _, by rw [show gl [p.take i, p.drop (i + 1), mv] (0 + 1) = p.drop (i + 1) from rfl, E2.out]; rfl, (HR2.out.below hbw hB).more (by omega), Lo.zero⟩
    · exact ⟨_, _, rfl, (HR3.out.below hbw hB).more (by omega), Lo.zero⟩
    · simp at ht
      omega
  have HX3 := Lib.hid hx3
  clear hx3
  have hbw : Below w.heap.size w (w.alloc (.cells #[.slice (some ⟨b, o, none⟩) i c, .slice A2 (p.length - (i + 1)) (c - (i + 1)), .slice A' mv.length c'] 22)).drew := (bel1 w _).drew
  have hzw : (w.alloc (.cells #[.slice (some ⟨b, o, none⟩) i c, .slice A2 (p.length - (i + 1)) (c - (i + 1)), .slice A' mv.length c'] 22)).drew.heap.size = w.heap.size + 1 := by
    show (w.heap.push _).size = _
    simp
  have hcc := concat_any (some ⟨w.heap.size, 0, none⟩) 3 [p.take i, p.drop (i + 1), mv] _ 0 (w.heap.size + 1) (by rw [hzw]; exact Nat.le_refl _) HX3.out HLEN.out
  have hal := HLEN.out
  rw [HFL.out] at hcc hal
  rw [show [p.take i, p.drop (i + 1), mv].length = 3 from rfl] at hcc
  have HCC := Lib.hid hcc; have HAL := Lib.hid hal; have HZ := Lib.hid hzw; have HBW := Lib.hid hbw
  clear hcc hal hzw hbw
  go_wp2_with (first
    | (go_at_call 114; (with_reducible refine (HCC.out).mono ?_); rintro e w1 ⟨A3, c3, rfl, ho3, hb3⟩; have hz3 := hb3.size; have hzz := HZ.out)
    | (go_at_call 115; (with_reducible refine (sortO_any A3 c3 w.heap.size (aft0 p i mv) _ HAL.out (by omega) ((own_ints.1 ho3).le (by omega))).mono ?_); rintro e w2 ⟨rfl, ho4, hb4⟩))
  have e9 : (aft0 p i mv).length = (aft p i mv).length := (srt_len _).symm
  go_ret
  refine ⟨A3, c3, by rw [← e9]; rfl, own_ints.2 ?_, (HBW.out.trans (hb3.mono (by omega))).trans hb4⟩
  rw [← e9]
  exact ho4
end Go.Proofs.Ytdckgplmkigjcaa
