/- The reference's number of a position, the place of a number in the book, l19Mex, by contracts. Conditions: none. -/
import Derived.Test.YtdckgplmkigjcaaBook
import Derived.Test.YtdckgplmkigjcaaOpt0
import Derived.Deep.OwnRows
namespace Go.Proofs.Ytdckgplmkigjcaa
open Go.RowKit
set_option linter.unusedVariables false

/-- How often each size is there. -/
def cntL (p : List Int) : List Int := (List.range 21).map fun (h : Nat) => ((p.count (h : Int) : Nat) : Int)
theorem cntL_len (p : List Int) : (cntL p).length = 21 := by simp [cntL]
theorem cntL_gi (p : List Int) (h : Nat) (hh : h < 21) : gi (cntL p) h = (p.count (h : Int) : Nat) := by simp [gi, cntL, hh]
theorem cntL_nil : cntL [] = List.replicate 21 0 := by
  refine List.ext_getElem (by simp [cntL]) fun i h1 h2 => ?_
  rw [List.getElem_replicate]
  simp [cntL]
theorem cntL_snoc (p : List Int) (x : Nat) (hx : x < 21) : cntL (p ++ [(x : Int)]) = (cntL p).set x (gi (cntL p) x + 1) := by
  refine List.ext_getElem (by simp [cntL]) fun i h1 h2 => ?_
  have hi : i < 21 := by rw [cntL_len] at h1; exact h1
  rw [List.getElem_set]
  simp only [cntL_gi p x hx]
  simp only [cntL, List.getElem_map, List.getElem_range, List.count_append, List.count_singleton]
  by_cases e : x = i
  · subst e; simp
  · rw [if_neg e, if_neg (by simpa using by omega)]; simp
theorem kR_le : ∀ h, h ≤ 20 → kR h ≤ 16094453760 := by
  have : ∀ h : Fin 21, kR h.val ≤ 16094453760 := by decide
  exact fun h hh => this ⟨h, by omega⟩
theorem kf_step {p : List Int} (hp : Hp 20 p) (h : Nat) (hh : h < 20) : kf p h * (20 / (h + 1) + 1) + p.count ((h + 1 : Nat) : Int) = kf p (h + 1) ∧ kf p h * (20 / (h + 1) + 1) ≤ 16094453760 ∧ kf p (h + 1) ≤ 16094453760 := by
  have h1 := kf_lt hp (h + 1)
  have h2 := kR_le (h + 1) (by omega)
  have e : kf p (h + 1) = kf p h * (20 / (h + 1) + 1) + p.count ((h + 1 : Nat) : Int) := rfl
  omega
theorem made_ints (n : Nat) : madeCells #[Value.int .i64 0] n = (ints (List.replicate n 0)).toArray := by
  refine Array.ext (by simp [madeCells, ints]) fun i h1 h2 => ?_
  simp [madeCells, ints, Nat.mod_one]

set_option maxHeartbeats 800000 in
theorem key_any (A : Option Addr) (c : Nat) (p : List Int) (w : World) (B : Nat) (hB : B ≤ w.heap.size) (h : RdI w B A c p) (hp : Hp 20 p) :
    Calls Try.prog 93 #[.slice A p.length c, .int .i64 0, .int .i64 0] w fun e w' => e = .returned (.int .i64 (ky p)) ∧ Below w.heap.size w w' := by
  have h1 := h.len
  have h2 := h.max
  have hl := hp.len
  have HP := Lib.hid hp; clear hp
  have hmk : ∀ w : World, (Instr.makeSlice 22 (.int .i64 21) (.int .i64 21)).run Try.prog w = .ok (.slice (some ⟨w.heap.size, 0, none⟩) 21 21) (w.alloc (.cells (ints (cntL [])).toArray 3)) := fun w => by
    have := run_make_row' (P := Try.prog) 22 3 (.int .i64 0) 8 Try.underlying22 infoInt rfl .i64 .i64 21 (by omega) (by omega) w
    rw [made_ints, ← cntL_nil] at this
    exact this
  go_enter Try.func93, Try.ntmps93
  go_wp2
  obtain ⟨g, hg⟩ : ∃ g, g = w.heap.size := ⟨_, rfl⟩
  rw [← hg]
  have HGE := Lib.hid hg
  have hB0 : Blk (w.alloc (.cells (ints (cntL [])).toArray 3)) g 3 (ints (cntL [])).toArray := Blk.new_at _ _ _ hg
  have hbw := bel1 w (.cells (ints (cntL [])).toArray 3)
  generalize w.alloc (.cells (ints (cntL [])).toArray 3) = W at *
  clear hg hmk
  go_loopw [8] (fun i wr => ∃ k : Nat, i = .int .i64 k ∧ k ≤ p.length ∧ Blk wr g 3 (ints (cntL (p.take k))).toArray ∧ Below w.heap.size w wr) (fun i _ => p.length - (intOf i).toNat)
  case atStart => exact ⟨0, rfl, by omega, hB0, hbw⟩
  case round =>
    clear hB0 hbw
    obtain ⟨k, rfl, hk, hBr, hb⟩ := hrel
    by_cases hlt : k < p.length
    · obtain ⟨b, o, rfl, hbB, hc⟩ := (h.below hb hB).at (j := k) hlt
      have hck := hc k hlt
      clear hc
      obtain ⟨x, hx⟩ := Int.eq_ofNat_of_zero_le (show 0 ≤ gi p k by have := HP.out.le (gi_mem hlt); omega)
      have hx20 : 1 ≤ x ∧ x ≤ 20 := by have := HP.out.le (gi_mem hlt); omega
      obtain ⟨hx1, hx2⟩ := hx20
      rw [hx] at hck
      have hcx := (hBr.cell x).trans (arr_gi _ x (by rw [cntL_len]; omega))
      have hfx := hBr.frozen x
      have hcn : gi (cntL (p.take k)) x = ((p.take k).count (x : Int) : Nat) := cntL_gi _ x (by omega)
      have hle : (p.take k).count (x : Int) ≤ 20 := Nat.le_trans List.count_le_length (by rw [List.length_take]; omega)
      have hB2 := hBr.set x (.int .i64 (gi (cntL (p.take k)) x + 1))
      rw [arr_set, ← cntL_snoc _ x (by omega), ← hx, ← take_succ_gi p k hlt] at hB2
      rw [hcn] at hB2 hcx
      obtain ⟨n, hn⟩ : ∃ n, n = (p.take k).count (x : Int) := ⟨_, rfl⟩
      rw [← hn] at hB2 hcx hle
      have HB2 := Lib.hid hB2; have HBr := Lib.hid hBr
      have HG2 : Hid (w.heap.size ≤ g) := by show _ ≤ _; rw [HGE.out]; exact Nat.le_refl _
      clear hB2 hBr hcn hn hx h
      go_wp2
      go_roundw
      case rel => exact ⟨k + 1, by go_num, by omega, HB2.out, hb.setCell HG2.out _⟩
      case measure => simp [intOf]; omega
    · obtain rfl : k = p.length := by omega
      rw [List.take_length] at hBr
      go_wp2
      clear h h1 h2 hlt hk
      obtain ⟨w1, rfl⟩ : ∃ w1, w1 = wr := ⟨_, rfl⟩
      go_loopw [9, 10] (fun v i wi => ∃ h : Nat, i = .int .i64 ((h : Int) + 1) ∧ h ≤ 20 ∧ v = .int .i64 (kf p h : Nat) ∧ wi.heap = w1.heap ∧ Below w1.heap.size w1 wi) (fun _ i _ => 21 - (intOf i).toNat)
      case atStart => exact ⟨0, rfl, by omega, rfl, rfl, Below.refl _ _⟩
      case round =>
        obtain ⟨h, rfl, hh, rfl, hwh, hb2⟩ := hrel
        have hBi : Blk wr g 3 (ints (cntL p)).toArray := by unfold Blk; rw [hwh]; exact hBr
        by_cases hlt : h < 20
        · have hst := kf_step HP.out h hlt
          have hcx := (hBi.cell (h + 1)).trans (arr_gi _ (h + 1) (by rw [cntL_len]; omega))
          rw [cntL_gi p (h + 1) (by omega)] at hcx
          obtain ⟨a, ha⟩ : ∃ a, a = kf p h := ⟨_, rfl⟩
          obtain ⟨a', ha'⟩ : ∃ a', a' = kf p (h + 1) := ⟨_, rfl⟩
          obtain ⟨n, hn⟩ : ∃ n, n = p.count ((h + 1 : Nat) : Int) := ⟨_, rfl⟩
          rw [← hn] at hcx hst
          rw [← ha] at hst ⊢
          rw [← ha'] at hst
          have HA' := Lib.hid ha'
          obtain ⟨s1, s2, s3⟩ := hst
          clear ha ha' hn
          obtain ⟨q, hq⟩ : ∃ q, q = 20 / (h + 1) := ⟨_, rfl⟩
          rw [← hq] at s1 s2
          have hqd : (20 : Int) / ((h : Int) + 1) = (q : Int) := by rw [hq]; exact (Int.natCast_ediv 20 (h + 1)).symm
          have hqt : (20 : Int).tdiv ((h : Int) + 1) = (q : Int) := by rw [Int.tdiv_eq_ediv_of_nonneg (by omega)]; exact hqd
          have hq20 : q ≤ 20 := by rw [hq]; exact Nat.div_le_self _ _
          have hm : (a : Int) * ((q : Int) + 1) = ((a * (q + 1) : Nat) : Int) := by rw [Int.natCast_mul]; rfl
          obtain ⟨m, hmm⟩ : ∃ m, m = a * (q + 1) := ⟨_, rfl⟩
          rw [← hmm] at hm s1 s2
          have hne : ((h : Int) + 1 == 0) = false := by simp; omega
          have hs1 : (m : Int) + (n : Int) = (a' : Int) := by omega
          have HW := Lib.hid hwh; have HB2 := Lib.hid hb2
          clear hmm hq s1 hBi hwh hb2
          go_wp2
          go_quiet (fail)
          go_wp2
          go_roundw
          case rel => exact ⟨h + 1, by go_num, by omega, by rw [HA'.out], HW.out, bdrew HB2.out _⟩
          case measure => simp [intOf]; omega
        · obtain rfl : h = 20 := by omega
          go_wp2
          go_ret
          exact ⟨rfl, hb.trans (hb2.mono hb.size)⟩

set_option maxHeartbeats 800000 in
theorem slot_any (w : World) (g gk gv c : Nat) (A : Option Addr) (cs ks vs : List Int) (k : Nat) (h : BookM w g gk gv A c cs ks vs) (hk : k ≤ 16094453760) :
    Calls Try.prog 94 #[.pointer (some ⟨g, 0, none⟩), .int .i64 k] w fun e w' => ∃ i : Nat, e = .returned (.int .i64 i) ∧ SlotAt ks k i ∧ w' = w := by
  obtain ⟨i0, hi0, hf0⟩ := h.2.2.2.1.free
  obtain ⟨D, hD, hpD⟩ := plc_to k i0 hi0
  have hge : ∀ i, i < 8192 → gi ks i = -1 ∨ 0 ≤ gi ks i := fun i hi => by
    rcases h.2.2.2.1.2.2.1 i hi with e | ⟨p, _, e, _⟩
    · exact .inl e
    · exact .inr (by rw [e]; exact ky_pos p)
  have q1 : w.cell? ⟨g, 1, none⟩ = some (.slice (some ⟨gk, 0, none⟩) 8192 8192) := h.1.cell 1
  have HC : Hid (∀ i, i < 8192 → w.cell? ⟨gk, i, none⟩ = some (.int .i64 (gi ks i))) := fun i hi => h.key i hi
  have HGE := Lib.hid hge; have HF0 := Lib.hid hf0; have HPD := Lib.hid hpD
  clear h hge hf0 hpD
  have hmod : ((k : Int) % 8191) = ((k % 8191 : Nat) : Int) := by omega
  have htm : Int.tmod (k : Int) 8191 = ((k % 8191 : Nat) : Int) := by rw [Int.tmod_eq_emod_of_nonneg (by omega)]; exact hmod
  have hpl : k % 8191 = plc k 0 := by unfold plc; simp; omega
  rw [hpl] at hmod htm
  clear hpl
  go_enter Try.func94, Try.ntmps94
  go_wp2
  go_loop [5] (fun v => ∃ d : Nat, v = .int .i64 (plc k d : Nat) ∧ d ≤ D ∧ (∀ t, t < d → gi ks (plc k t) ≠ -1 ∧ gi ks (plc k t) ≠ k)) (fun v => (i0 + 8192 - (intOf v).toNat) % 8192)
  case atStart => exact ⟨0, rfl, by omega, fun t ht => by omega⟩
  case round =>
    obtain ⟨d, rfl, hd, hs⟩ := hrel
    have HS := Lib.hid hs
    have hil := plc_lt k d
    have hstep := plc_succ k d
    obtain ⟨i, hi⟩ : ∃ i, i = plc k d := ⟨_, rfl⟩
    have hci := HC.out (plc k d) hil
    have hgi := HGE.out (plc k d) hil
    rw [← hi] at hil hstep hci hgi ⊢
    have HI := Lib.hid hi; clear hi hs
    obtain ⟨x, hx⟩ : ∃ x, x = gi ks i := ⟨_, rfl⟩
    rw [← hx] at hci hgi
    have HX := Lib.hid hx; clear hx
    by_cases hx1 : x = -1
    · have hx2 : ¬ (0 : Int) ≤ x := by omega
      go_wp2
      go_ret
      exact ⟨i, rfl, ⟨.inl (by rw [← HX.out, hx1]), d, by omega, HI.out.symm, HS.out⟩, rfl⟩
    · have hx2 : (0 : Int) ≤ x := by omega
      by_cases hxk : x = k
      · have ht : (x != (k : Int)) = false := by simp [hxk]
        have HXK := Lib.hid hxk; clear hxk
        go_wp2
        go_ret
        exact ⟨i, rfl, ⟨.inr (by rw [← HX.out, HXK.out]), d, by omega, HI.out.symm, HS.out⟩, rfl⟩
      · have ht : (x != (k : Int)) = true := by simp [hxk]
        have HXK := Lib.hid hxk; clear hxk
        have hii0 : i ≠ i0 := fun e => hx1 (by rw [HX.out, e]; exact HF0.out)
        have hdD : d ≠ D := fun e => hii0 (by rw [HI.out, e]; exact HPD.out)
        have hm1 : ((i : Int) + 1) % 8192 = ((plc k (d + 1) : Nat) : Int) := by rw [hstep]; omega
        have hm2 : Int.tmod ((i : Int) + 1) 8192 = ((plc k (d + 1) : Nat) : Int) := by rw [Int.tmod_eq_emod_of_nonneg (by omega)]; exact hm1
        have HST := Lib.hid hstep; clear hstep
        have HX1 := Lib.hid hx1; clear hx1
        go_wp2
        go_round
        case rel =>
          refine ⟨d + 1, rfl, by omega, fun t ht => ?_⟩
          by_cases e : t = d
          · subst e
            rw [← HI.out, ← HX.out]
            exact ⟨HX1.out, HXK.out⟩
          · exact HS.out t (by omega)
        case measure =>
          have e := HST.out
          simp only [intOf, Int.toNat_natCast]
          rw [e]
          omega

theorem few_pre {xs : List Int} {n : Nat} (h : ∀ j : Nat, j < n → (j : Int) ∈ xs) : n ≤ xs.length := by
  have := nodup_le ((List.range n).map fun (j : Nat) => (j : Int)) xs (by
    rw [List.Nodup, List.pairwise_map]
    exact List.pairwise_lt_range.imp fun h => by omega) (fun x hx => by
    obtain ⟨j, hj, rfl⟩ := List.mem_map.1 hx
    exact h j (List.mem_range.1 hj))
  simpa using this

set_option maxHeartbeats 800000 in
theorem mexS_any (A : Option Addr) (c : Nat) (xs : List Int) (w : World) (B : Nat) (h : RdI w B A c xs) (hl : xs.length ≤ 1000000) :
    Calls Try.prog 95 #[.slice A xs.length c] w fun e w' => ∃ n : Nat, e = .returned (.int .i64 n) ∧ (∀ j : Nat, j < n → (j : Int) ∈ xs) ∧ (n : Int) ∉ xs ∧ w' = w := by
  have HC : Hid (∀ x : Int, Calls Try.prog 109 #[.slice A xs.length c, .int .i64 x] w fun e w' => e = .returned (.bool (decide (x ∈ xs))) ∧ w = w') := fun x => l1Has_any A c xs x w B h
  clear h
  go_enter Try.func95, Try.ntmps95
  go_wp2
  go_loop [3] (fun v => ∃ n : Nat, v = .int .i64 n ∧ ∀ j : Nat, j < n → (j : Int) ∈ xs) (fun v => xs.length + 1 - (intOf v).toNat)
  case atStart => exact ⟨0, rfl, fun j hj => by omega⟩
  case round =>
    obtain ⟨n, rfl, hn⟩ := hrel
    have hle := few_pre hn
    have HN := Lib.hid hn; clear hn
    by_cases hx : (n : Int) ∈ xs
    · have ht : decide ((n : Int) ∈ xs) = true := decide_eq_true hx
      have HX := Lib.hid hx; clear hx
      go_wp2_with (go_at_call 109; (with_reducible refine (HC.out _).mono ?_); rintro e w1 ⟨rfl, rfl⟩; rw [ht])
      go_round
      case rel => exact ⟨n + 1, by go_num, fun j hj => if e : j = n then by rw [e]; exact HX.out else HN.out j (by omega)⟩
      case measure =>
        have := few_pre (n := n + 1) fun j hj => if e : j = n then by rw [e]; exact HX.out else HN.out j (by omega)
        simp [intOf]; omega
    · have ht : decide ((n : Int) ∈ xs) = false := decide_eq_false hx
      have HX := Lib.hid hx; clear hx
      go_wp2_with (go_at_call 109; (with_reducible refine (HC.out _).mono ?_); rintro e w1 ⟨rfl, rfl⟩; rw [ht])
      go_ret
      exact ⟨n, rfl, HN.out, HX.out, rfl⟩
end Go.Proofs.Ytdckgplmkigjcaa
