/- The program's misere value of a position, by its map. Conditions: none. -/
import Derived.Test.YtdckgplmkigjcaaKnown
import Derived.Test.YtdckgplmkigjcaaReach
namespace Go.Proofs.Ytdckgplmkigjcaa
open Go.RowKit Go.Maps
set_option linter.unusedVariables false

theorem lit_bool {D : DataW Unit} {k : Lit} {z : DataW Unit} {p q r : Bool} (h1 : D.atKey k z = .lit (.bool p)) (h2 : D.atKey k z = .lit (.bool q)) (h3 : q = r) : p = r := by
  have := h1.symm.trans h2
  injection this with this
  injection this with this
  rw [this, h3]
theorem u8n (x : Nat) (h : x ≤ 20) : ((UInt8.ofNat x).toNat : Int) = x := by rw [UInt8.toNat_ofNat']; omega

set_option maxHeartbeats 800000 in
theorem keyOf_any (A : Option Addr) (c : Nat) (p : List Int) (w : World) (B : Nat) (hB : B ≤ w.heap.size) (h : RdI w B A c p) (hp : Hp 20 p) :
    Calls Try.prog 96 #[.slice A p.length c, .int .i64 0, .int .i64 0] w fun e w' => e = .returned (.string (kS p)) ∧ Below w.heap.size w w' := by
  have h1 := h.len
  have h2 := h.max
  have hl := hp.len
  have HP := Lib.hid hp; clear hp
  go_enter Try.func96, Try.ntmps96
  go_wp2
  go_loopw [7, 17] (fun v s wr => ∃ (k : Nat) (A1 : Option Addr) (c1 : Nat), s = .int .i64 k ∧ k ≤ p.length ∧ v = .slice A1 (k + 2) c1 ∧ Own wr w.heap.size 5 (.slice A1 (k + 2) c1) (bcells (kB (p.take k))) ∧ Below w.heap.size w wr) (fun _ s _ => p.length - (intOf s).toNat)
  case atStart => exact ⟨0, _, _, rfl, by omega, rfl, World.ownsRow_lit w #[.int .u8 0, .int .u8 0] 2 (Nat.le_refl _) (by unfold maxLen; omega) rfl, bel1 w _⟩
  case round =>
    obtain ⟨k, A1, c1, rfl, hk, rfl, ho, hb⟩ := hrel
    by_cases hlt : k < p.length
    · obtain ⟨b, o, rfl, hbB, hc⟩ := (h.below hb hB).at (j := k) hlt
      have hck := hc k hlt
      have hx20 := HP.out.le (gi_mem hlt)
      have HSN : Hid (kB (p.take (k + 1)) = kB (p.take k) ++ [UInt8.ofNat (gi p k).toNat]) := Lib.hid (by rw [take_succ_gi p k hlt]; simp [kB])
      obtain ⟨x, hx⟩ := Int.eq_ofNat_of_zero_le (show 0 ≤ gi p k by omega)
      have ex : (gi p k).toNat = x := by omega
      rw [ex] at HSN
      obtain ⟨u, hu⟩ : ∃ u, u = UInt8.ofNat x := ⟨_, rfl⟩
      have hun : (u.toNat : Int) = x := by rw [hu]; exact u8n x (by omega)
      rw [← hu] at HSN
      rw [hx, ← hun] at hck
      have hu20 : u.toNat ≤ 20 := by omega
      have hlk : (kB (p.take k)).length = k + 2 := by simp [kB]; omega
      have hw8 : IntKind.u8.wrap (u.toNat : Int) = (u.toNat : Int) := by
        simp [IntKind.wrap, IntKind.bits, IntKind.signed]; omega
      have HO := Lib.hid ho; have HLK := Lib.hid hlk
      have hzw := hb.size
      clear hc hx ex hu hun hx20 ho hlk
      go_wp2_with (at_builtin; refine append_byte rfl _ _ rfl w.heap.size (.slice A1 (k + 2) c1) (kB (p.take k)) rfl (HO.out.below (bel1 _ _)) wr.heap.size u rfl ((Blk.new _ _ _).cell 0) (by rw [HLK.out]; omega) (by simp; omega) ?_; intro A5 c5 w5 ho5 hb5 hg5; rw [HLK.out] at ho5 ⊢)
      have HO5 := Lib.hid ho5
      clear ho5 hg5
      go_roundw
      case rel => exact ⟨k + 1, A5, c5, by go_num, by omega, rfl, by rw [HSN.out]; exact HO5.out, hb.trans (((Below.refl _ _).alloc hzw _).trans hb5)⟩
      case measure => simp [intOf]; omega
    · obtain rfl : k = p.length := by omega
      rw [List.take_length] at ho
      have hback := own_back ho
      have HK : Hid (str (kB p) = kS p) := Lib.hid rfl
      obtain ⟨l, hl⟩ : ∃ l, l = kB p := ⟨_, rfl⟩
      rw [← hl] at hback HK
      clear hl
      go_wp2
      go_ret
      exact ⟨by rw [← HK.out]; rfl, hb⟩

set_option maxRecDepth 100000 in
set_option maxHeartbeats 800000 in
theorem mexI_any (A : Option Addr) (c : Nat) (xs : List Int) (w : World) (B : Nat) (hB : B ≤ w.heap.size) (h : RdI w B A c xs) (hl : xs.length ≤ 1000000) (hr : ∀ x ∈ xs, 0 ≤ x ∧ x ≤ 1000000) :
    Calls Try.prog 97 #[.slice A xs.length c] w fun e w' => ∃ n : Nat, e = .returned (.int .i64 n) ∧ (∀ j : Nat, j < n → (j : Int) ∈ xs) ∧ (n : Int) ∉ xs ∧ Below w.heap.size w w' := by
  have h1 := h.len
  have h2 := h.max
  have hmk := fun w : World => (run_makeMap (P := Try.prog) 100 w)
  go_enter Try.func97, Try.ntmps97
  go_wp2
  obtain ⟨b, hbe⟩ : ∃ b, b = w.heap.size := ⟨_, rfl⟩
  have hS0 := SeenM.new w
  have hbw := bel1 w (.map #[] 0)
  rw [← hbe] at hS0 ⊢
  have HBE := Lib.hid hbe
  generalize w.alloc (.map #[] 0) = W at *
  clear hbe hmk
  go_loopw [10] (fun s wr => ∃ k : Nat, s = .int .i64 k ∧ k ≤ xs.length ∧ SeenM wr b k (xs.take k) ∧ Below w.heap.size w wr) (fun s _ => xs.length - (intOf s).toNat)
  case atStart => exact ⟨0, rfl, by omega, hS0, hbw⟩
  case round =>
    clear hS0 hbw
    obtain ⟨k, rfl, hk, hS, hb⟩ := hrel
    obtain ⟨D, ho, hat⟩ := hS
    have hm := ho.isMap
    by_cases hlt : k < xs.length
    · obtain ⟨bx, o, rfl, hbB, hc⟩ := (h.below hb hB).at (j := k) hlt
      have hck := hc k hlt
      have hx := hr _ (gi_mem hlt)
      have hsn := take_succ_gi xs k hlt
      obtain ⟨x, hxx⟩ : ∃ x, x = gi xs k := ⟨_, rfl⟩
      rw [← hxx] at hck hx hsn
      have hkey := keyOf_int_mk (P := Try.prog) (k := 3) (q := .i64) Try.underlying3 (a := x) (by simp [Lit.wf, IntKind.min, IntKind.max, IntKind.signed, IntKind.bits]; omega)
      have hval : plainElem (H := Unit) Try.prog 4 (.bool true) = some (.lit (.bool true), []) := plainElem_bool Try.underlying4 true
      have hnl : k < maxLen := by unfold maxLen; omega
      have HAT := Lib.hid hat; have HSN := Lib.hid hsn
      clear hc hxx hat hsn
      go_wp2_with (first | (at_mapUpdate; refine wpList_mapUpdate_own _ rfl _ _ _ 100 rfl 3 4 keyedI Try.underlying100 _ b _ D rfl ho hnl _ _ _ rfl rfl hkey _ [] hval ?_; intro w3 ho3 hg3) | go_in)
      go_roundw
      case rel => exact ⟨k + 1, by go_num, by omega, by rw [HSN.out]; exact SeenM.put x hm HAT.out ho3, hb.grown hg3 hb.size fun g hg => by injection hg with hg; rw [← hg, HBE.out]; exact Nat.le_refl _⟩
      case measure => simp [intOf]; omega
    · obtain rfl : k = xs.length := by omega
      rw [List.take_length] at hat
      have HAT := Lib.hid hat
      clear hat hlt hk
      go_wp2
      obtain ⟨w1, rfl⟩ : ∃ w1, w1 = wr := ⟨_, rfl⟩
      go_loopw [6] (fun s wr => ∃ n : Nat, s = .int .i64 n ∧ (∀ j : Nat, j < n → (j : Int) ∈ xs) ∧ wr = w1) (fun s _ => xs.length + 1 - (intOf s).toNat)
      case atStart => exact ⟨0, rfl, fun j hj => by omega, rfl⟩
      case round =>
        obtain ⟨n, rfl, hn, hw⟩ := hrel
        have hw' := hw.symm
        subst hw'
        clear hw
        have hle := few_pre hn
        have HN := Lib.hid hn; clear hn
        have hkey := keyOf_int_mk (P := Try.prog) (k := 3) (q := .i64) Try.underlying3 (a := (n : Int)) (by simp [Lit.wf, IntKind.min, IntKind.max, IntKind.signed, IntKind.bits]; omega)
        by_cases hx : (n : Int) ∈ xs
        · have ht : decide ((n : Int) ∈ xs) = true := decide_eq_true hx
          have HX := Lib.hid hx; clear hx
          go_wp2_with (first | (at_lookup; refine wpList_lookup_own_bool _ rfl _ _ 100 rfl 3 4 keyedI Try.underlying100 Try.underlying4 (zeroBo _) b _ D rfl ho _ _ rfl hkey ?_; intro cb hcc; rw [lit_bool hcc (HAT.out n) ht]; clear hcc) | go_in)
          go_roundw
          case rel => exact ⟨n + 1, by go_num, fun j hj => if e : j = n then by rw [e]; exact HX.out else HN.out j (by omega), by first | rfl | trivial⟩
          case measure =>
            have := few_pre (n := n + 1) fun j hj => if e : j = n then by rw [e]; exact HX.out else HN.out j (by omega)
            simp [intOf]; omega
        · have ht : decide ((n : Int) ∈ xs) = false := decide_eq_false hx
          have HX := Lib.hid hx; clear hx
          go_wp2_with (first | (at_lookup; refine wpList_lookup_own_bool _ rfl _ _ 100 rfl 3 4 keyedI Try.underlying100 Try.underlying4 (zeroBo _) b _ D rfl ho _ _ rfl hkey ?_; intro cb hcc; rw [lit_bool hcc (HAT.out n) ht]; clear hcc) | go_in)
          go_ret
          exact ⟨n, rfl, HN.out, HX.out, hb⟩

theorem grown_new {u w w' : World} {b : Nat} {row : Option Nat} (h0 : u.grownBy w (some b)) (h : w.grownBy w' row) (hr : ∀ k, row = some k → u.heap.size ≤ k) : u.grownBy w' (some b) :=
  ⟨h.os.trans h0.os, h.tape.trans h0.tape, h.output.trans h0.output, Nat.le_trans h0.size h.size, fun k hk hb => (h.block k (by have := h0.size; omega) fun e => by have := hr k e.symm; omega).trans (h0.block k hk hb)⟩
theorem RdR.atL {w : World} {lo B c : Nat} {A : Option Addr} {xss : List (List Int)} (h : RdR w lo B A c xss) {j : Nat} (hj : j < xss.length) :
    ∃ b o, A = some ⟨b, o, none⟩ ∧ b < B ∧ ∃ Ai ci, w.cell? ⟨b, o + j, none⟩ = some (.slice Ai (gl xss j).length ci) ∧ RdI w B Ai ci (gl xss j) ∧ Lo lo Ai := by
  obtain ⟨cs, h1, hl, h2⟩ := h
  obtain ⟨b, o, hA, hb, hc⟩ := h1.at (j := j) (by rw [h2.1]; exact hj)
  obtain ⟨Ai, ci, k1, k2, k3⟩ := h2.2 j hj
  exact ⟨b, o, hA, hb, Ai, ci, hc j _ k1, k2, k3⟩
/-- What is known of the reached positions: the values of the first j. -/
theorem vals_mem {cs p : List Int} {L : List (List Int)} (hL : ∀ q, q ∈ L ↔ optP cs p q) (x : Int) : x ∈ L.map (fun q => ((mz cs q : Nat) : Int)) ↔ ∃ q, optP cs p q ∧ x = (mz cs q : Nat) := by
  rw [List.mem_map]
  constructor
  · rintro ⟨q, h, rfl⟩; exact ⟨q, (hL q).1 h, rfl⟩
  · rintro ⟨q, h, rfl⟩; exact ⟨q, (hL q).2 h, rfl⟩
theorem vals_snoc (cs : List Int) (L : List (List Int)) (j : Nat) (h : j < L.length) : (L.take (j + 1)).map (fun q => ((mz cs q : Nat) : Int)) = (L.take j).map (fun q => ((mz cs q : Nat) : Int)) ++ [((mz cs (gl L j) : Nat) : Int)] := by
  rw [List.take_succ_eq_append_getElem h, List.map_append, gl_lt h]
  rfl

set_option maxRecDepth 100000 in
set_option maxHeartbeats 3200000 in
theorem valI_any (cs : List Int) (hg : goodCode cs) (Ac : Option Addr) (cc B0 b : Nat) (hk0 : B0 ≤ b) : ∀ (m : Nat) (p : List Int) (w : World) (A : Option Addr) (c : Nat) (K : List (List Int)), Hp 20 p → sm p < m → MapM w b cs K → RdI w B0 Ac cc cs → RdI w w.heap.size A c p → (∀ a, A = some a → a.block ≠ b) →
    Calls Try.prog 71 #[.agg #[.slice Ac cs.length cc, .map (some b)], .slice A p.length c, .int .i64 0, .int .i64 0] w fun e w' =>
      e = .returned (.int .i64 (mz cs p : Nat)) ∧ (∃ K', MapM w' b cs K' ∧ ∀ t ∈ K', t ∈ K ∨ sm t ≤ sm p) ∧ w.grownBy w' (some b) := by
  intro m
  induction m with
  | zero => intro p w A c K hp hs; have := hp.nonneg; omega
  | succ m ih =>
    intro p w A c K hp hsm hM hcode hr hne
    have HI := Lib.hid ih; clear ih
    have HP := Lib.hid hp; have HNE := Lib.hid hne; have HSM := Lib.hid hsm
    have hlen := hp.len
    have hbl := hM.lt
    have hrl := hr.len
    have hrm := hr.max
    have HR := Lib.hid hr; have HCODE := Lib.hid hcode; have HG := Lib.hid hg
    have HM := Lib.hid hM
    have hks := kS_size p
    clear hM hr hcode hp hne hsm hg
    obtain ⟨W, hW⟩ : ∃ W, W = w.alloc (.cells #[.slice Ac cs.length cc, .map (some b)] 63) := ⟨_, rfl⟩
    have hbW : Below w.heap.size w W := by rw [hW]; exact bel1 _ _
    have hBX : Blk W w.heap.size 63 #[.slice Ac cs.length cc, .map (some b)] := by rw [hW]; exact Blk.new _ _ _
    have hzW : W.heap.size = w.heap.size + 1 := by rw [hW]; simp
    go_enter Try.func71, Try.ntmps71
    go_wp2_with fail
    rw [← hW]
    clear hW
    have hkey1 := keyOf_any A c p W W.heap.size (Nat.le_refl _) ((HR.out.below hbW (Nat.le_refl _)).more (by omega)) HP.out
    ((with_reducible refine (hkey1).mono ?_); rintro e w1 ⟨rfl, hb1⟩)
    have g1 := gtr hbW hb1
    have hz1 := hb1.size
    have hM1 := HM.out.kept (belowG g1 none) (by simp)
    have hBX1 := hBX.below hb1 (by omega)
    have q0 : w1.cell? ⟨w.heap.size, 0, none⟩ = some (.slice Ac cs.length cc) := hBX1.cell 0
    have q1 : w1.cell? ⟨w.heap.size, 1, none⟩ = some (.map (some b)) := hBX1.cell 1
    have hkey := WideMaps.keyOf_string_mk (P := Try.prog) (k := 9) Try.underlying9 (s := kS p) (by unfold maxLen; omega)
    have HBX1 := Lib.hid hBX1; have HG1 := Lib.hid g1
    clear hBX1 g1 hb1 hBX hbW
    by_cases hin : p ∈ K
    · have HM1 := Lib.hid hM1
      obtain ⟨D, ho, hd, hK, hh, ha⟩ := hM1
      have hhit : Maps.has D (.string (kS p).data.toList) = true := (hh p HP.out).2 hin
      have hval := ha p hin
      clear hd hK hh ha
      go_wp2_with (first | (at_lookup; refine wpList_lookup_own_ok_int _ rfl _ _ 61 rfl 9 3 .i64 keyedSt Try.underlying61 Try.underlying3 (zeroIn _) b _ D rfl ho _ _ rfl hkey ?_; intro ci hat hwc; rw [hhit]; have HAT := Lib.hid (hat.symm.trans hval); clear hat hval) | go_in)
      go_ret
      have hc : ci = (mz cs p : Nat) := by have := HAT.out; injection this with this; injection this
      exact ⟨by rw [hc]; rfl, ⟨K, HM1.out, fun t ht => .inl ht⟩, belowG HG1.out _⟩
    · have HM1 := Lib.hid hM1
      obtain ⟨D, ho, hd, hK, hh, ha⟩ := hM1
      have hmiss : Maps.has D (.string (kS p).data.toList) = false := by rw [Bool.eq_false_iff]; exact fun h => hin ((hh p HP.out).1 h)
      clear hd hK hh ha
      have hbL := bel1 w1 (.cells #[] 3)
      have hzL : (w1.alloc (.cells #[] 3)).heap.size = w1.heap.size + 1 := by simp
      have hcodeL : RdI (w1.alloc (.cells #[] 3)) (w1.alloc (.cells #[] 3)).heap.size Ac cc cs := (HCODE.out.below (gtr HG1.out hbL) (by omega)).more (by omega)
      have hrL : RdI (w1.alloc (.cells #[] 3)) (w1.alloc (.cells #[] 3)).heap.size A c p := (HR.out.below (gtr HG1.out hbL) (Nat.le_refl _)).more (by omega)
      have hrch := reached_any cs HG.out Ac A cc c p p _ _ (Nat.le_refl _) hcodeL hrL (nz_self HP.out.1).symm HP.out (fun x hx => by have := HP.out.1 x hx; omega) (by omega)
      have q0L : (w1.alloc (.cells #[] 3)).cell? ⟨w.heap.size, 0, none⟩ = some (.slice Ac cs.length cc) := (HBX1.out.alloc _).cell 0
      have HRCH := Lib.hid hrch
      clear hrch hrL hcodeL
      go_wp2_with (first | (at_lookup; refine wpList_lookup_own_ok_int _ rfl _ _ 61 rfl 9 3 .i64 keyedSt Try.underlying61 Try.underlying3 (zeroIn _) b _ D rfl ho _ _ rfl hkey ?_; intro ci hat hwc; rw [hmiss]; clear hat hwc) | (go_at_call 91; (with_reducible refine (HRCH.out).mono ?_); rintro e w2 ⟨⟨v1, rfl, hv1⟩, hb2⟩; obtain ⟨L, AM, cM, rfl, hrM, hsM, hlM, hmM⟩ := hv1.mov) | go_in)
      have HLM := Lib.hid hlM; have HMM := Lib.hid hmM
      have g2 := gtr HG1.out (gtr hbL hb2)
      have hM2 := HM1.out.kept (belowG (gtr hbL hb2) none) (by simp)
      have hBX2 := (HBX1.out.alloc (.cells #[] 3)).below hb2 (by omega)
      have ho2 : Own w2 w1.heap.size 3 (.slice (some ⟨w1.heap.size, 0, none⟩) 0 0) (ints []) := (Own.empty w1 3 3 _ (Nat.le_refl _)).below hb2
      have hz2 := hb2.size
      obtain ⟨lo1, hlo1⟩ : ∃ lo1, lo1 = w1.heap.size := ⟨_, rfl⟩
      obtain ⟨lo2, hlo2⟩ : ∃ lo2, lo2 = (w1.alloc (.cells #[] 3)).heap.size := ⟨_, rfl⟩
      obtain ⟨B2, hB2⟩ : ∃ B2, B2 = w2.heap.size := ⟨_, rfl⟩
      have hrM2 : RdR w2 lo2 B2 AM cM L := by rw [hlo2, hB2]; exact hrM
      have hblk : ∀ k, (Value.slice (some ⟨w1.heap.size, 0, none⟩) 0 0).ownBlock = some k → k < lo2 ∨ B2 ≤ k := fun k hk => by
        have hk : w1.heap.size = k := by injection hk
        left; omega
      have ho2 : Own w2 lo1 3 (.slice (some ⟨w1.heap.size, 0, none⟩) 0 0) (ints []) := by rw [hlo1]; exact ho2
      have hl1 : w.heap.size < lo1 := by omega
      have hl12 : lo1 ≤ lo2 := by omega
      have hl2B : lo2 ≤ B2 := by omega
      have hB2w : B2 ≤ w2.heap.size := by omega
      have hgr2 : w.grownBy w2 (some b) := belowG g2 _
      have hlo1w : lo1 ≤ w2.heap.size := by omega
      clear hrM hsM hlM hmM hv1 g2 hb2 hbL hzL ho hmiss HRCH q0L q0 q1 hz2 hlo1 hlo2 hB2 HBX1 HM1 HG1 hkey1 hzW hz1
      go_wp2
      go_loopw [12, 35] (fun v s wi => ∃ (j : Nat) (A2 : Option Addr) (c2 : Nat) (ys : List Int) (K' : List (List Int)), s = .int .i64 j ∧ j ≤ L.length ∧ ys = (L.take j).map (fun q => ((mz cs q : Nat) : Int)) ∧ v = .slice A2 ys.length c2 ∧ Own wi lo1 3 (.slice A2 ys.length c2) (ints ys) ∧ MapM wi b cs K' ∧ (∀ t ∈ K', t ∈ K ∨ sm t < sm p) ∧ w.grownBy wi (some b) ∧ Blk wi w.heap.size 63 #[.slice Ac cs.length cc, .map (some b)] ∧ RdR wi lo2 B2 AM cM L ∧ (∀ k, (Value.slice A2 ys.length c2).ownBlock = some k → k < lo2 ∨ B2 ≤ k) ∧ B2 ≤ wi.heap.size) (fun _ s _ => L.length - (intOf s).toNat)
      case atStart => exact ⟨0, _, _, [], K, rfl, by omega, rfl, rfl, ho2, hM2, fun t ht => .inl ht, hgr2, hBX2, hrM2, hblk, hB2w⟩
      case round =>
        clear ho2 hM2 hgr2 hBX2 hrM2 hblk hB2w hlo1w
        obtain ⟨j, A2, c2, ys, K', rfl, hj, hys, rfl, ho, hM, hKR, hgr, hBX, hrM, hblk, hBw⟩ := hrel
        have hLM := HLM.out
        have hyl : ys.length ≤ 200000 := by rw [hys, List.length_map, List.length_take]; omega
        have HKR := Lib.hid hKR; clear hKR
        have hsm0 := HP.out.nonneg
        by_cases hlt : j < L.length
        · obtain ⟨bM, oM, hAM, hbM, hcM⟩ := hrM.atL hlt
          obtain ⟨Aj, cj, hcj, hrj, hloj⟩ := hcM
          subst hAM
          have hopt := (HMM.out (gl L j)).1 (by rw [gl_lt hlt]; exact List.getElem_mem hlt)
          have hq2 := hp_opt HP.out hopt
          have hsn := vals_snoc cs L j hlt
          rw [← hys] at hsn
          obtain ⟨q, hq⟩ : ∃ q, q = gl L j := ⟨_, rfl⟩
          rw [← hq] at hcj hrj hq2 hsn
          have hsq : sm q < m := by have := HSM.out; omega
          have hcall := HI.out q wr Aj cj K' hq2.1 hsq hM (Rd.grown (lo := 0) HCODE.out Lo.zero hgr (by omega) fun k hk => by injection hk with hk; omega) (hrj.more hBw) (fun a ha => by have := hloj a ha; omega)
          have HCALL := Lib.hid hcall; have HSN := Lib.hid hsn; have HO := Lib.hid ho; have HGR := Lib.hid hgr; have HRM := Lib.hid hrM; have HBLK := Lib.hid hblk; have HQ2 := Lib.hid hq2.2
          have q0 : wr.cell? ⟨w.heap.size, 0, none⟩ = some (.slice Ac cs.length cc) := hBX.cell 0
          have q1 : wr.cell? ⟨w.heap.size, 1, none⟩ = some (.map (some b)) := hBX.cell 1
          have HBX := Lib.hid hBX
          have hzw := hgr.size
          clear hcall hsn ho hgr hrM hblk hq2 hM hBX hrj hloj hopt hq hys hsq
          go_wp2_with fail
          ((with_reducible refine (HCALL.out).mono ?_); rintro e w3 ⟨rfl, ⟨K3, hM3, hK3⟩, hg3⟩)
          obtain ⟨u, hu⟩ : ∃ u, u = mz cs q := ⟨_, rfl⟩
          rw [← hu] at HSN ⊢
          clear hu q0 q1
          have hz3 := hg3.size
          have HO3 := Lib.hid (HO.out.grown hg3 (by
            rcases hob : (Value.slice A2 ys.length c2).ownBlock with _ | k
            · exact .inl rfl
            · refine .inr fun e => ?_
              injection e with e
              have := (HO.out.lt k hob).1
              omega))
          have HRM3 := Lib.hid (HRM.out.grown hg3 hBw fun k hk => by injection hk with hk; omega)
          have HBX3 := Lib.hid (HBX.out.grown hg3 (by simp; omega))
          have HM3 := Lib.hid hM3; have HK3 := Lib.hid hK3; have HG3 := Lib.hid (HGR.out.trans hg3)
          clear hM3 hK3 hg3
          go_wp2_with (at_builtin; refine append_int_at rfl _ _ rfl lo1 (.slice A2 ys.length c2) ys rfl (own_ints.2 (HO3.out.below (bel1 _ _))) w3.heap.size u rfl (Blk.new _ _ _) (by omega) (by simp; omega) ?_; intro A5 c5 w5 ho5 hb5 hg5 hp5)
          have hz5 := hg5.size
          have hza : (w3.alloc (.cells #[.int .i64 u] 3)).heap.size = w3.heap.size + 1 := by simp
          have HO5 := Lib.hid ho5; have HG5 := Lib.hid hg5; have HP5 := Lib.hid hp5
          clear ho5 hb5 hg5 hp5
          go_roundw
          case rel =>
            have hbase : ∀ k, (Value.slice A2 ys.length c2).ownBlock = some k → lo1 ≤ k := fun k hk => (HO3.out.lt k hk).1
            have ey : (ys ++ [(u : Int)]).length = ys.length + 1 := by simp
            have hgA : w3.grownBy w5 (Value.slice A2 ys.length c2).ownBlock := (belowG (bel1 w3 (.cells #[.int .i64 u] 3)) _).trans HG5.out
            refine ⟨j + 1, A5, c5, ys ++ [(u : Int)], K3, by go_num, by omega, HSN.out.symm, by rw [ey], by rw [ey]; exact own_ints.1 HO5.out, HM3.out.kept hgA (fun e => by have := hbase b e.symm; have := HM3.out.lt; omega), fun t ht => ?_, grown_new HG3.out hgA (fun k hk => by have := hbase k hk; omega), HBX3.out.grown hgA (fun e => by have := hbase _ e.symm; omega), HRM3.out.grown hgA (by omega) HBLK.out, fun k hk => ?_, by omega⟩
            · rcases HK3.out t ht with h | h
              · exact HKR.out t h
              · exact .inr (by have := HQ2.out; omega)
            · rw [ey] at hk
              rcases HP5.out with e | e
              · rw [e] at hk; exact HBLK.out k hk
              · rw [e] at hk; injection hk with hk; omega
          case measure => simp [intOf]; omega
        · obtain rfl : j = L.length := by omega
          rw [List.take_length] at hys
          have hml := mz_list (xs := ys) HP.out fun x => by rw [hys]; exact vals_mem HMM.out x
          have HMr := Lib.hid hM; have HGR := Lib.hid hgr
          have q1 : wr.cell? ⟨w.heap.size, 1, none⟩ = some (.map (some b)) := hBX.cell 1
          by_cases hxs : ys = []
          · have HV : Hid (mz cs p = 1) := hml.1 hxs
            subst hxs
            clear hml ho hlt hM hgr hBX hrM hblk hys
            have hnin : p ∉ K' := fun h => by
              rcases HKR.out p h with h | h
              · exact hin h
              · omega
            obtain ⟨D2, ho2, hd2, hK2, hh2, ha2⟩ := HMr.out
            have hfew := fewP hd2 hK2
            have hnl : K'.length < maxLen := by unfold maxLen; omega
            have hm2 := ho2.isMap
            have h21 := mz_le20 (cs := cs) HP.out
            rw [HV.out] at h21
            have hval : plainElem (H := Unit) Try.prog 3 (.int .i64 1) = some (.lit (.int .i64 1), []) := plainElem_int Try.underlying3 (by simp [Lit.wf, IntKind.min, IntKind.max, IntKind.signed, IntKind.bits] <;> omega)
            have HD2 := Lib.hid hd2; have HK2 := Lib.hid hK2; have HH2 := Lib.hid hh2; have HA2 := Lib.hid ha2
            clear hd2 hK2 hh2 ha2
            go_wp2_with (first | (at_mapUpdate; refine wpList_mapUpdate_own _ rfl _ _ _ 61 rfl 9 3 keyedSt Try.underlying61 _ b _ D2 rfl ho2 hnl _ _ _ rfl rfl hkey _ [] hval ?_; intro w9 ho9 hg9) | go_in)
            go_ret
            refine ⟨by rw [HV.out]; rfl, ⟨p :: K', MapM.put p HP.out hnin hm2 HD2.out HK2.out HH2.out HA2.out (by rw [HV.out]; exact ho9), fun t ht => ?_⟩, HGR.out.trans hg9⟩
            rcases List.mem_cons.1 ht with rfl | ht
            · exact .inr (Int.le_refl _)
            · rcases HKR.out t ht with h | h
              · exact .inl h
              · exact .inr (by omega)
          · have hpos := List.length_pos_iff.2 hxs
            have HML := Lib.hid (hml.2 hxs)
            have hrange : ∀ x ∈ ys, 0 ≤ x ∧ x ≤ 1000000 := fun x hx => by
              rw [hys] at hx
              obtain ⟨q, hq, rfl⟩ := List.mem_map.1 hx
              have := mz_le20 (cs := cs) (hp_opt HP.out ((HMM.out q).1 hq)).1
              omega
            have hrx := (own_ints.2 ho).rd rfl
            have hcallm := mexI_any A2 c2 ys wr wr.heap.size (Nat.le_refl _) hrx (by omega) hrange
            have HCM := Lib.hid hcallm
            have HBX := Lib.hid hBX
            have hblt := HMr.out.lt
            clear hml hxs hrx hlt ho hM hgr hBX hrM hblk hys hrange hcallm q1
            go_wp2_with fail
            ((with_reducible refine (HCM.out).mono ?_); rintro e w3 ⟨v, rfl, hv1, hv2, hb3⟩)
            have HV : Hid (mz cs p = v) := HML.out v hv1 hv2
            have HMr := Lib.hid (HMr.out.kept (belowG hb3 none) (by simp))
            have HGR := Lib.hid (HGR.out.trans (belowG hb3 (some b)))
            have q1 : w3.cell? ⟨w.heap.size, 1, none⟩ = some (.map (some b)) := (HBX.out.below hb3 HBX.out.lt).cell 1
            clear hv1 hv2 hpos hb3
            have hnin : p ∉ K' := fun h => by
              rcases HKR.out p h with h | h
              · exact hin h
              · omega
            obtain ⟨D2, ho2, hd2, hK2, hh2, ha2⟩ := HMr.out
            have hfew := fewP hd2 hK2
            have hnl : K'.length < maxLen := by unfold maxLen; omega
            have hm2 := ho2.isMap
            have h21 := mz_le20 (cs := cs) HP.out
            rw [HV.out] at h21
            have hval : plainElem (H := Unit) Try.prog 3 (.int .i64 v) = some (.lit (.int .i64 v), []) := plainElem_int Try.underlying3 (by simp [Lit.wf, IntKind.min, IntKind.max, IntKind.signed, IntKind.bits] <;> omega)
            have HD2 := Lib.hid hd2; have HK2 := Lib.hid hK2; have HH2 := Lib.hid hh2; have HA2 := Lib.hid ha2
            clear hd2 hK2 hh2 ha2
            go_wp2_with (first | (at_mapUpdate; refine wpList_mapUpdate_own _ rfl _ _ _ 61 rfl 9 3 keyedSt Try.underlying61 _ b _ D2 rfl ho2 hnl _ _ _ rfl rfl hkey _ [] hval ?_; intro w9 ho9 hg9) | go_in)
            go_ret
            refine ⟨by rw [HV.out]; rfl, ⟨p :: K', MapM.put p HP.out hnin hm2 HD2.out HK2.out HH2.out HA2.out (by rw [HV.out]; exact ho9), fun t ht => ?_⟩, HGR.out.trans hg9⟩
            rcases List.mem_cons.1 ht with rfl | ht
            · exact .inr (Int.le_refl _)
            · rcases HKR.out t ht with h | h
              · exact .inl h
              · exact .inr (by omega)
end Go.Proofs.Ytdckgplmkigjcaa
