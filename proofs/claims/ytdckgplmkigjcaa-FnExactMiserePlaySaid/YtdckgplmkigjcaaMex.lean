/- l17Mex by its contract. Conditions: none. -/
import Derived.Test.YtdckgplmkigjcaaMoves3
import Derived.Test.YtdckgplmkigjcaaMemAt
namespace Go.Proofs.Ytdckgplmkigjcaa
open Go.RowKit
set_option linter.unusedVariables false

def xorTo (v : List Nat) (xs : List Int) : Nat → Nat
  | 0 => 0
  | k + 1 => xorTo v xs k ^^^ gn v (gi xs k).toNat
def xorL (v : List Nat) (xs : List Int) : Nat := xorTo v xs xs.length
theorem xorTo_lt {v : List Nat} (hv : ∀ i, gn v i < 32768) (xs : List Int) : ∀ k, xorTo v xs k < 32768
  | 0 => by simp [xorTo]
  | k + 1 => by
    unfold xorTo
    exact Nat.xor_lt_two_pow (n := 15) (xorTo_lt hv xs k) (hv _)
theorem pigeon : ∀ (m : Nat) (l : List Nat), (∀ j, j < m → j ∈ l) → m ≤ l.length
  | 0, _, _ => Nat.zero_le _
  | m + 1, l, h => by
    have h1 := pigeon m (l.erase m) fun j hj => (List.mem_erase_of_ne (by omega)).2 (h j (by omega))
    have h2 := List.length_erase_of_mem (h m (by omega))
    have h3 : 0 < l.length := List.length_pos_of_mem (h m (by omega))
    omega
/-- The elements of a move are smaller heaps. -/
theorem isMv_lt {cs : List Int} {n : Nat} {xs : List Int} (h : isMv cs n xs) {i : Nat} (hi : i < xs.length) : ∃ q : Nat, gi xs i = (q : Int) ∧ q < n := by
  obtain ⟨j, h1, h2, h3, h4⟩ := h
  rcases h4 with ⟨_, _, rfl⟩ | ⟨_, _, rfl⟩ | ⟨_, a, _, _, ha, rfl⟩
  · simp at hi
  · have : i = 0 := by simpa using hi
    subst this
    exact ⟨n - (j + 1), rfl, by omega⟩
  · have : i = 0 ∨ i = 1 := by simp at hi; omega
    rcases this with rfl | rfl
    · exact ⟨a, rfl, by omega⟩
    · exact ⟨n - (j + 1) - a, rfl, by omega⟩
theorem isOpt_iff (cs : List Int) (v : List Nat) (n x : Nat) : isOpt cs v n x ↔ ∃ xs, isMv cs n xs ∧ x = xorL v xs := by
  constructor
  · rintro ⟨j, h1, h2, h3, h4⟩
    rcases h4 with ⟨k1, k2, rfl⟩ | ⟨k1, k2, rfl⟩ | ⟨k1, a, k2, k3, k4, rfl⟩
    · exact ⟨[], ⟨j, h1, h2, h3, .inl ⟨k1, k2, rfl⟩⟩, rfl⟩
    · exact ⟨_, ⟨j, h1, h2, h3, .inr (.inl ⟨k1, k2, rfl⟩)⟩, by simp [xorL, xorTo, gi]⟩
    · exact ⟨_, ⟨j, h1, h2, h3, .inr (.inr ⟨k1, a, k2, k3, k4, rfl⟩)⟩, by simp [xorL, xorTo, gi]⟩
  · rintro ⟨xs, ⟨j, h1, h2, h3, h4⟩, rfl⟩
    rcases h4 with ⟨k1, k2, rfl⟩ | ⟨k1, k2, rfl⟩ | ⟨k1, a, k2, k3, k4, rfl⟩
    · exact ⟨j, h1, h2, h3, .inl ⟨k1, k2, rfl⟩⟩
    · exact ⟨j, h1, h2, h3, .inr (.inl ⟨k1, k2, by simp [xorL, xorTo, gi]⟩)⟩
    · exact ⟨j, h1, h2, h3, .inr (.inr ⟨k1, a, k2, k3, k4, by simp [xorL, xorTo, gi]⟩)⟩

set_option maxHeartbeats 1600000 in
theorem mex_any (A A' : Option Addr) (c c' : Nat) (cs : List Int) (v : List Nat) (n : Nat) (w : World) (B : Nat) (hB : B ≤ w.heap.size) (h : RdI w B A c cs) (h' : RdI w B A' c' (nats v)) (hn : n ≤ 300) (hg : goodCode cs) (hvl : n ≤ v.length) (hv : ∀ i, gn v i < 32768) :
    Calls Try.prog 98 #[.slice A cs.length c, .slice A' v.length c', .int .i64 n] w fun e w' => (∃ m : Nat, e = .returned (.int .i64 m) ∧ isMex (isOpt cs v n) m ∧ m ≤ 10000) ∧ Below w.heap.size w w' := by
  have h1 := h.len
  have h2 := h.max
  have h3 := h'.len
  rw [nats_len] at h3
  have h4 := h'.max
  have HV : Hid (∀ i, gn v i < 32768) := hv
  clear hv
  go_enter Try.func98, Try.ntmps98
  go_wp2_with fail
  have hb0 : Below w.heap.size w (w.alloc (.cells #[] 3)) := (Below.refl _ _).alloc (Nat.le_refl _) _
  have hz0 : w.heap.size < (w.alloc (.cells #[] 3)).heap.size := by simp
  have hoE : OwnI (w.alloc (.cells #[] 3)) w.heap.size (.slice (some ⟨w.heap.size, 0, none⟩) 0 0) [] := own_ints.2 (Own.empty w 3 3 _ (Nat.le_refl _))
  generalize w.alloc (.cells #[] 3) = w0 at *
  refine (moves_any _ _ _ _ _ B (by omega) (h.below hb0 hB) hn hg).mono ?_
  rintro e w1 ⟨⟨vm, rfl, xss, Am, cm, rfl, hrd, hso, hxl, hmem⟩, hb1⟩
  have hm1 := hrd.len
  have hm2 := hrd.max
  have HM := Lib.hid hmem; clear hmem hso
  have hbw := hb0.trans (hb1.mono (by omega))
  have hz1 := hb1.size
  have hoE1 := hoE.below hb1
  clear hoE
  go_wp2
  go_loopg [7, 9] xss.length (fun gk lv i wr => ∃ (k : Nat) (Al : Option Addr) (cl : Nat), i = .int .i64 k ∧ k + gk = xss.length ∧ lv = .slice Al k cl ∧ OwnI wr w.heap.size (.slice Al k cl) (nats ((xss.take k).map (xorL v))) ∧ Below w.heap.size w wr ∧ RdR wr w0.heap.size w1.heap.size Am cm xss ∧ w1.heap.size ≤ wr.heap.size ∧ ∀ g, (Value.slice Al k cl).ownBlock = some g → g < w0.heap.size ∨ w1.heap.size ≤ g)
  case atStart => exact ⟨0, _, 0, rfl, by omega, rfl, hoE1, hbw, hrd, Nat.le_refl _, fun g hg => .inl (by simp [Value.ownBlock] at hg; omega)⟩
  case round =>
    clear hoE1 hrd hbw hb1 hb0
    obtain ⟨k, Al, cl, rfl, hk, rfl, hol, hb, hrd, hz, hloc⟩ := hrel
    have HLoc := Lib.hid hloc; clear hloc
    obtain ⟨go, rfl⟩ : ∃ go : Nat, go = gk := ⟨_, rfl⟩
    have HK := Lib.hid hk
    have hkk : k ≤ xss.length := by omega
    clear hk
    have hk := hkk
    clear hkk
    by_cases hlt : k < xss.length
    · obtain ⟨b, o, rfl, hbB, hc⟩ := hrd.at (j := k) hlt
      obtain ⟨Ak, ck, hck, hrk⟩ := hc k hlt
      clear hc
      have hmv : isMv cs n (gl xss k) := (HM.out _).1 (by rw [gl_lt hlt]; exact List.getElem_mem hlt)
      have HMv := Lib.hid hmv; clear hmv
      have hk1 := hrk.len
      have hk2 := hrk.max
      have hrv := h'.below hb hB
      go_wp2
      go_loop [10, 11] (fun x q => ∃ t : Nat, q = .int .i64 t ∧ t ≤ (gl xss k).length ∧ x = .int .i64 (xorTo v (gl xss k) t : Nat)) (fun _ q => (gl xss k).length - (intOf q).toNat)
      case atStart => exact ⟨0, rfl, by omega, rfl⟩
      case round =>
        obtain ⟨t, rfl, ht, rfl⟩ := hrel
        by_cases htl : t < (gl xss k).length
        · obtain ⟨q, hq, hqn⟩ := isMv_lt HMv.out htl
          obtain ⟨b2, o2, hA2, hb2, hc2⟩ := hrk.at (j := t) htl
          have hct := hc2 t htl
          clear hc2
          subst hA2
          rw [hq] at hct
          obtain ⟨b3, o3, hA3, hb3, hc3⟩ := hrv.at (j := q) (by rw [nats_len]; omega)
          have hcv := hc3 q (by rw [nats_len]; omega)
          clear hc3
          subst hA3
          rw [gi_nats] at hcv
          have hx1 := xorTo_lt HV.out (gl xss k) t
          have hx2 := HV.out q
          have hxe := bxor (xorTo v (gl xss k) t) (gn v q) (by omega) (by omega)
          have hxs : Hid (xorTo v (gl xss k) (t + 1) = xorTo v (gl xss k) t ^^^ gn v q) := by show _ = _; rw [xorTo, hq, Int.toNat_natCast]
          clear hq
          generalize gn v q = vq at *
          generalize hxx : xorTo v (gl xss k) t ^^^ vq = X at *
          clear hxx
          go_wp2
          go_round
          case rel => exact ⟨t + 1, by go_num, by omega, by rw [hxs.out]⟩
          case measure => simp [intOf]; omega
        · obtain rfl : t = (gl xss k).length := by omega
          have hAdd : Hid (nats ((xss.take (k + 1)).map (xorL v)) = nats ((xss.take k).map (xorL v)) ++ [((xorTo v (gl xss k) (gl xss k).length : Nat) : Int)]) := by
            show _ = _
            rw [List.take_add_one, List.getElem?_eq_getElem hlt, ← gl_lt hlt]
            simp [nats, xorL]
          have hkl : Hid ((nats ((xss.take k).map (xorL v))).length = k) := by show _ = _; rw [nats_len, List.length_map, List.length_take]; omega
          go_wp2_with (at_builtin; refine append_int_at rfl _ _ rfl w.heap.size (.slice Al k cl) (nats ((xss.take k).map (xorL v))) rfl (hol.below ((Below.refl _ _).alloc (Nat.le_refl _) _)) _ (xorTo v (gl xss k) (gl xss k).length : Nat) rfl (Blk.new _ _ _) (by rw [hkl.out]; omega) (by simp; omega) ?_; intro A5 c5 w5 ho5 hb5 hg5 hat5; rw [hkl.out] at ho5 hat5 ⊢)
          have hbA : Below wr.heap.size wr (wr.alloc (.cells #[.int .i64 (xorTo v (gl xss k) (gl xss k).length : Nat)] 3)) := (Below.refl _ _).alloc (Nat.le_refl _) _
          go_roundg (go - 1)
          case measure => have := HK.out; omega
          case rel =>
            have := HK.out
            refine ⟨k + 1, A5, c5, by go_num, by omega, rfl, by rw [hAdd.out]; exact ho5, (hb.trans (hbA.mono hb.size)).trans hb5, (hrd.below hbA hz).grown hg5 (by simp; omega) HLoc.out, by have := hg5.size; simp at this; omega, fun g hg => ?_⟩
            rcases hat5 with h5 | h5
            · rw [h5] at hg; exact HLoc.out g hg
            · rw [h5] at hg; injection hg with hg; subst hg; right; simp; omega
    · obtain rfl : k = xss.length := by omega
      have hls : Hid (∀ x : Nat, ((x : Int) ∈ nats ((xss.take xss.length).map (xorL v))) ↔ isOpt cs v n x) := fun x => by
        rw [isOpt_iff, List.take_length]
        constructor
        · intro hx
          obtain ⟨y, hy, hyx⟩ := List.mem_map.1 hx
          obtain ⟨xs, hxs, rfl⟩ := List.mem_map.1 hy
          exact ⟨xs, (HM.out xs).1 hxs, by omega⟩
        · rintro ⟨xs, hxs, rfl⟩
          exact List.mem_map.2 ⟨xorL v xs, List.mem_map.2 ⟨xs, (HM.out xs).2 hxs, rfl⟩, rfl⟩
      have hll : Hid ((nats ((xss.take xss.length).map (xorL v))).length = xss.length) := by show _ = _; rw [nats_len, List.length_map, List.length_take]; omega
      have hpg : Hid (∀ m, (∀ y, y < m → isOpt cs v n y) → m ≤ xss.length) := fun m hm => by
        have := pigeon m ((xss.take xss.length).map (xorL v)) fun y hy => by
          have := (hls.out y).2 (hm y hy)
          obtain ⟨z, hz', hzy⟩ := List.mem_map.1 this
          have : z = y := by omega
          rwa [← this]
        rw [List.length_map, List.length_take] at this
        omega
      have hrl := hol.rd (by rw [hll.out])
      generalize hL : nats ((xss.take xss.length).map (xorL v)) = L at *
      have HL := Lib.hid hL; clear hL
      have hlen : xss.length = L.length := hll.out.symm
      have HLen := Lib.hid hlen; clear hlen
      go_wp2
      go_loop [12] (fun a => ∃ m : Nat, a = .int .i64 m ∧ (∀ y, y < m → isOpt cs v n y)) (fun a => 20000 - (intOf a).toNat)
      case atStart => exact ⟨0, rfl, fun y hy => absurd hy (by omega)⟩
      case round =>
        obtain ⟨m, rfl, hall⟩ := hrel
        have hml := hpg.out m hall
        have HA := Lib.hid hall; clear hall
        have hhas := l1Has_any Al cl L (m : Int) wr _ hrl
        rw [hll.out] at hhas
        have HHas := Lib.hid hhas; clear hhas
        by_cases hop : isOpt cs v n m
        · have hd : decide ((m : Int) ∈ L) = true := decide_eq_true ((hls.out m).2 hop)
          have HOP := Lib.hid hop; clear hop
          go_wp2_with (go_at_call 109; refine HHas.out.mono ?_; rintro e w' ⟨rfl, rfl⟩)
          go_round
          case rel => exact ⟨m + 1, by go_num, fun y hy => if hym : y = m then by rw [hym]; exact HOP.out else HA.out y (by omega)⟩
          case measure => simp [intOf]; omega
        · have hd : decide ((m : Int) ∈ L) = false := decide_eq_false fun hh => hop ((hls.out m).1 hh)
          have HMex : Hid (isMex (isOpt cs v n) m) := ⟨hop, HA.out⟩
          clear hop
          go_wp2_with (go_at_call 109; refine HHas.out.mono ?_; rintro e w' ⟨rfl, rfl⟩)
          go_ret
          exact ⟨⟨m, rfl, HMex.out, by omega⟩, hb⟩
end Go.Proofs.Ytdckgplmkigjcaa
