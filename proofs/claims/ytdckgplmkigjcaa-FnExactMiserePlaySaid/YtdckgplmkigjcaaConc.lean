/- slices.Grow at nil, slices.Concat at rows of integers: contracts. Conditions: none. -/
import Derived.Test.YtdckgplmkigjcaaShelfG
import Derived.Test.YtdckgplmkigjcaaMoves2
import Derived.Test.YtdckgplmkigjcaaSortS
namespace Go.Proofs.Ytdckgplmkigjcaa
open Go.RowKit
set_option linter.unusedVariables false

theorem own_nil (w : World) (E : TypeId) (base : Nat) : Own w base E (.slice none 0 0) [] := ⟨rfl, .inl ⟨rfl, rfl⟩⟩
theorem own_zero {w : World} {base g G : Nat} {C : Array Value} (h : Blk w g 3 C) (hb : base ≤ g) (hs : C.size = G) (hm : G ≤ maxLen) : Own w base 3 (.slice (some ⟨g, 0, none⟩) 0 G) [] :=
  ⟨rfl, .inr ⟨g, G, C, rfl, hb, h, Nat.zero_le _, hm, by omega, rfl⟩⟩
theorem grow_any (n : Nat) (w : World) (hn : n ≤ 1000000) :
    Calls Try.prog 121 #[.slice none 0 0, .int .i64 n] w fun e w' => ∃ A c, e = .returned (.slice A 0 c) ∧ Own w' w.heap.size 3 (.slice A 0 c) [] ∧ Below w.heap.size w w' := by
  by_cases h0 : n = 0
  · subst h0
    refine (Any8.slices_Grow_room Try.lays_f121 none 0 0 0 w (by omega) (by omega) (by omega) (by omega)).mono ?_
    rintro e w' ⟨he, rfl⟩
    exact ⟨none, 0, he, own_nil _ _ _, Below.refl _ _⟩
  · obtain ⟨i0, hi, hz0, hz1, hz2⟩ := info_parts infoInt
    refine (Any8.slices_Grow_grow Try.lays_f121 i0 (.int .i64 0) hi hz0 (by rw [hz1]; omega) none 0 0 n [] w (by omega) (by omega) (by rw [hz2]; omega) (by omega) (by simp) (fun _ => rfl) (fun a h => by cases h)).mono ?_
    rintro e w' ⟨he, rfl⟩
    refine ⟨_, _, he, ?_, ?_⟩
    · have hge := grownCap_ge w (0 + n) 0 3
      have hmx : grownCap w (0 + n) 0 3 ≤ maxLen := grownCap_le_maxLen w _ _ _ (by unfold maxLen; omega)
      have hsz : (#[] ++ Builtin.zeroCells (Value.int IntKind.i64 0).cells (0 + n - 0) ++ Builtin.zeroCells (Value.int IntKind.i64 0).cells (grownCap w (0 + n) 0 3 - (0 + n))).size = grownCap w (0 + n) 0 3 := by
        rw [Nat.zero_add] at hge ⊢
        simp [Builtin.zeroCells, Value.cells]
        omega
      exact own_zero (Blk.new_at w.drew _ _ rfl) (Nat.le_refl _) hsz hmx
    · exact (Below.refl _ _).drew.alloc (Nat.le_refl _) _

theorem flat_snoc (xss : List (List Int)) (k : Nat) (h : k < xss.length) : (xss.take (k + 1)).flatten = (xss.take k).flatten ++ gl xss k := by
  rw [List.take_succ_eq_append_getElem h, List.flatten_append, gl_lt h]
  simp
theorem flat_le (xss : List (List Int)) (k : Nat) : (xss.take k).flatten.length ≤ xss.flatten.length := by
  conv => rhs; rw [← List.take_append_drop k xss]
  rw [List.flatten_append, List.length_append]
  omega

set_option maxRecDepth 100000 in
set_option maxHeartbeats 1600000 in
theorem concat_any (A : Option Addr) (c : Nat) (xss : List (List Int)) (w : World) (lo B : Nat) (hB : B ≤ w.heap.size) (h : RdR w lo B A c xss) (hl : xss.flatten.length ≤ 1000000) :
    Calls Try.prog 114 #[.slice A xss.length c] w (RetI w xss.flatten) := by
  have h1 := h.len
  have h2 := h.max
  go_enter Try.func114, Try.ntmps114
  go_wp2
  go_loop [3, 11] (fun v s => ∃ k : Nat, s = .int .i64 k ∧ k ≤ xss.length ∧ v = .int .i64 ((xss.take k).flatten.length : Nat)) (fun _ s => xss.length - (intOf s).toNat)
  case atStart => exact ⟨0, rfl, by omega, rfl⟩
  case round =>
    obtain ⟨k, rfl, hk, rfl⟩ := hrel
    have hle := flat_le xss k
    by_cases hlt : k < xss.length
    · have hle2 := flat_le xss (k + 1)
      have hsn := flat_snoc xss k hlt
      have hs2 : (xss.take (k + 1)).flatten.length = (xss.take k).flatten.length + (gl xss k).length := by rw [hsn, List.length_append]
      obtain ⟨b, o, rfl, hbB, hc⟩ := h.at (j := k) hlt
      obtain ⟨Ak, ck, hck, hrk⟩ := hc k hlt
      have hrl := hrk.len
      obtain ⟨a, ha⟩ : ∃ a, a = (xss.take k).flatten.length := ⟨_, rfl⟩
      obtain ⟨a', ha'⟩ : ∃ a', a' = (xss.take (k + 1)).flatten.length := ⟨_, rfl⟩
      rw [← ha] at hle hs2 ⊢
      rw [← ha'] at hle2 hs2
      have HA' := Lib.hid ha'; have HS2 := Lib.hid hs2
      have hb3 : (a : Int) + ((gl xss k).length : Int) ≤ 9223372036854775807 := by omega
      have hn1 : ¬ (a : Int) + ((gl xss k).length : Int) < 0 := by omega
      clear hc ha ha' hsn hs2
      go_wp2
      go_round
      case rel => exact ⟨k + 1, by go_num, by omega, by rw [← HA'.out, HS2.out]; go_num⟩
      case measure => simp [intOf]; omega
    · obtain rfl : k = xss.length := by omega
      rw [List.take_length]
      obtain ⟨T, hT⟩ : ∃ T, T = xss.flatten.length := ⟨_, rfl⟩
      rw [← hT] at hl ⊢
      have HTT := Lib.hid hT
      clear hle hk hlt hT
      go_wp2_with (go_at_call 121; (with_reducible refine (grow_any T _ hl).mono ?_); rintro e w1 ⟨A1, c1, rfl, ho1, hb1⟩)
      have HR' : Hid (∀ W, Below w.heap.size w W → RdR W lo B A c xss) := fun W hW => h.below hW hB
      have hz1 := hb1.size
      clear h
      go_loopw [6, 27] (fun v s wr => ∃ (k : Nat) (A2 : Option Addr) (c2 : Nat) (zs : List Int), s = .int .i64 k ∧ k ≤ xss.length ∧ zs = (xss.take k).flatten ∧ v = .slice A2 zs.length c2 ∧ Own wr w.heap.size 3 (.slice A2 zs.length c2) (ints zs) ∧ Below w.heap.size w wr) (fun _ s _ => xss.length - (intOf s).toNat)
      case atStart => exact ⟨0, A1, c1, [], rfl, by omega, by simp, rfl, ho1, hb1⟩
      case round =>
        clear ho1 hb1
        obtain ⟨k, A2, c2, zs, rfl, hk, hzs, rfl, ho, hb⟩ := hrel
        have hle := flat_le xss k
        rw [← hzs, ← HTT.out] at hle
        by_cases hlt : k < xss.length
        · have hle2 := flat_le xss (k + 1)
          have hsn := flat_snoc xss k hlt
          rw [← hzs] at hsn
          rw [hsn, List.length_append, ← HTT.out] at hle2
          obtain ⟨b, o, rfl, hbB, hc⟩ := (HR'.out wr hb).at (j := k) hlt
          obtain ⟨Ak, ck, hck, hrk⟩ := hc k hlt
          have HSN := Lib.hid hsn; have HO := Lib.hid ho; have HRK := Lib.hid hrk
          have hzw := hb.size
          clear hc hzs hsn ho hrk
          go_wp2_with (at_builtin; refine wpList_append_rd rfl _ _ 22 3 (.int .i64 0) 8 rfl Try.underlying22 infoInt rfl (by omega) w.heap.size (.slice A2 zs.length c2) (ints zs) rfl HO.out B Ak (gl xss k).length ck (ints (gl xss k)) rfl (by rw [ints_len]) HRK.out (fun u hu => ints_one hu) (by rw [ints_len, ints_len]; omega) (by omega) ?_; intro A5 c5 w5 ho5 hb5 hg5; rw [ints_len, ints_len, ← List.length_append] at ho5 ⊢)
          have HO5 := Lib.hid ho5
          clear ho5 hg5
          go_roundw
          case rel =>
            have e9 : ints zs ++ ints (gl xss k) = ints (zs ++ gl xss k) := (List.map_append (f := Value.int .i64)).symm
            exact ⟨k + 1, A5, c5, zs ++ gl xss k, by go_num, by omega, HSN.out.symm, by rw [List.length_append], by rw [← e9]; exact HO5.out, hb.trans hb5⟩
          case measure => simp [intOf]; omega
        · obtain rfl : k = xss.length := by omega
          rw [List.take_length] at hzs
          have HZ := Lib.hid hzs
          clear hzs
          go_wp2
          go_ret
          rw [← HZ.out]
          exact ⟨A2, c2, rfl, own_ints.2 ho, hb⟩
end Go.Proofs.Ytdckgplmkigjcaa
