/- TrimBoard of the program: contract. Conditions: none. -/
import Derived.Test.YtadljglcbieifaaDoorMirrorB
import Derived.Test.YtadljglcbieifaaDoorIter
namespace Go.Proofs.YtadljglcbieifaaDoor
open Go.RowKit
set_option linter.unusedVariables false

/-- Is the cell free? -/
def fr (ss : List ByteArray) (i j : Nat) : Bool := (gs ss i).data.toList.getD j 0 == 46
/-- Bounds: first row, last row, first column, last column. -/
structure Bd where
  a : Int
  b : Int
  c : Int
  d : Int
def stepC (ss : List ByteArray) (s : Bd) (i j : Nat) : Bd := if fr ss i j then ⟨min s.a i, max s.b i, min s.c j, max s.d j⟩ else s
def scanC (ss : List ByteArray) (i : Nat) (s : Bd) : Nat → Bd
  | 0 => s
  | m + 1 => stepC ss (scanC ss i s m) i m
def scanR (ss : List ByteArray) (s : Bd) : Nat → Bd
  | 0 => s
  | k + 1 => scanC ss k (scanR ss s k) (gs ss k).size
/-- Untouched, or within the board. -/
def OkB (n m : Int) (s0 s : Bd) : Prop := s = s0 ∨ (0 ≤ s.a ∧ s.a ≤ s.b ∧ s.b < n ∧ 0 ≤ s.c ∧ s.c ≤ s.d ∧ s.d < m)
def RelB (s0 t0 s t : Bd) : Prop := (s = s0 ∧ t = t0) ∨ s = t
theorem okB_step {ss : List ByteArray} {n m x y : Int} {s : Bd} {i j : Nat} (hx : n ≤ x) (hy : m ≤ y) (hi : (i : Int) < n) (hj : (j : Int) < m) (h : OkB n m ⟨x, -1, y, -1⟩ s) : OkB n m ⟨x, -1, y, -1⟩ (stepC ss s i j) := by
  unfold stepC
  split
  · right
    rcases h with rfl | h
    · dsimp only; omega
    · dsimp only; omega
  · exact h
theorem relB_step {ss : List ByteArray} {n m x y x' y' : Int} {s t : Bd} {i j : Nat} (hx : n ≤ x) (hy : m ≤ y) (hx' : n ≤ x') (hy' : m ≤ y') (hi : (i : Int) < n) (hj : (j : Int) < m) (h : RelB ⟨x, -1, y, -1⟩ ⟨x', -1, y', -1⟩ s t) :
    RelB ⟨x, -1, y, -1⟩ ⟨x', -1, y', -1⟩ (stepC ss s i j) (stepC ss t i j) := by
  unfold stepC
  split
  · right
    rcases h with ⟨rfl, rfl⟩ | rfl
    · dsimp only
      rw [show min x (i : Int) = min x' (i : Int) by omega, show min y (j : Int) = min y' (j : Int) by omega]
    · rfl
  · exact h
theorem okB_scanC {ss : List ByteArray} {n m x y : Int} {s : Bd} {i : Nat} (hx : n ≤ x) (hy : m ≤ y) (hi : (i : Int) < n) (h : OkB n m ⟨x, -1, y, -1⟩ s) (k : Nat) (hk : (k : Int) ≤ m) : OkB n m ⟨x, -1, y, -1⟩ (scanC ss i s k) := by
  induction k with
  | zero => exact h
  | succ k ih => exact okB_step hx hy hi (by omega) (ih (by omega))
theorem relB_scanC {ss : List ByteArray} {n m x y x' y' : Int} {s t : Bd} {i : Nat} (hx : n ≤ x) (hy : m ≤ y) (hx' : n ≤ x') (hy' : m ≤ y') (hi : (i : Int) < n) (h : RelB ⟨x, -1, y, -1⟩ ⟨x', -1, y', -1⟩ s t) (k : Nat) (hk : (k : Int) ≤ m) :
    RelB ⟨x, -1, y, -1⟩ ⟨x', -1, y', -1⟩ (scanC ss i s k) (scanC ss i t k) := by
  induction k with
  | zero => exact h
  | succ k ih => exact relB_step hx hy hx' hy' hi (by omega) (ih (by omega))
theorem okB_scanR {ss : List ByteArray} {x y : Int} (hb : boardP ss) (hx : (ss.length : Int) ≤ x) (hy : ((gs ss 0).size : Int) ≤ y) (k : Nat) (hk : k ≤ ss.length) : OkB ss.length (gs ss 0).size ⟨x, -1, y, -1⟩ (scanR ss ⟨x, -1, y, -1⟩ k) := by
  induction k with
  | zero => exact .inl rfl
  | succ k ih => exact okB_scanC hx hy (by omega) (ih (by omega)) _ (by rw [(hb.2.2 k (by omega)).1]; exact Int.le_refl _)
theorem relB_scanR {ss : List ByteArray} {x y x' y' : Int} (hb : boardP ss) (hx : (ss.length : Int) ≤ x) (hy : ((gs ss 0).size : Int) ≤ y) (hx' : (ss.length : Int) ≤ x') (hy' : ((gs ss 0).size : Int) ≤ y') (k : Nat) (hk : k ≤ ss.length) :
    RelB ⟨x, -1, y, -1⟩ ⟨x', -1, y', -1⟩ (scanR ss ⟨x, -1, y, -1⟩ k) (scanR ss ⟨x', -1, y', -1⟩ k) := by
  induction k with
  | zero => exact .inl ⟨rfl, rfl⟩
  | succ k ih => exact relB_scanC hx hy hx' hy' (by omega) (ih (by omega)) _ (by rw [(hb.2.2 k (by omega)).1]; exact Int.le_refl _)
/-- The rows within the bounds. -/
def cutB (ss : List ByteArray) (s : Bd) : List ByteArray :=
  if s.b < 0 then [⟨#[35]⟩] else ((ss.drop s.a.toNat).take (s.b + 1 - s.a).toNat).map fun r => r.extract s.c.toNat (s.d + 1).toNat
theorem cutB_rel {ss : List ByteArray} {x y x' y' : Int} {s t : Bd} (h : RelB ⟨x, -1, y, -1⟩ ⟨x', -1, y', -1⟩ s t) : cutB ss s = cutB ss t := by
  rcases h with ⟨rfl, rfl⟩ | rfl
  · rfl
  · rfl
def trimL (ss : List ByteArray) : List ByteArray := cutB ss (scanR ss ⟨8, -1, 8, -1⟩ ss.length)
theorem trimL_le (ss : List ByteArray) (h : 1 ≤ ss.length) : (trimL ss).length ≤ ss.length := by
  unfold trimL cutB
  split
  · exact h
  · rw [List.length_map, List.length_take, List.length_drop]; omega
def resTrimBoard (ss : List ByteArray) : List ByteArray := if boardB ss = true then trimL ss else []
theorem resTrimBoard_le (ss : List ByteArray) : (resTrimBoard ss).length ≤ 8 := by
  unfold resTrimBoard
  split
  · rename_i h
    have h1 := (boardB_of h).1
    have := trimL_le ss h1.1
    omega
  · simp

theorem fr_at {ss : List ByteArray} {i j : Nat} (h : j < (gs ss i).size) : fr ss i j = ((gs ss i)[j] == 46) := by
  have h' : j < (gs ss i).data.toList.length := by rw [data_len]; exact h
  unfold fr
  rw [List.getD_eq_getElem?_getD, List.getElem?_eq_getElem h']
  rfl
def frI (ss : List ByteArray) (i j : Int) : Bool := decide (0 ≤ i ∧ i < ss.length ∧ 0 ≤ j ∧ j < (gs ss 0).size) && fr ss i.toNat j.toNat
set_option maxHeartbeats 1600000 in
theorem free_any (A : Option Addr) (c : Nat) (ss : List ByteArray) (i j : Int) (w : World) (B : Nat) (hB : B ≤ w.heap.size) (h : Rd w B A c (scells ss)) (hb : boardP ss) :
    Calls Tryd.prog 150 #[.agg #[.slice A ss.length c], .int .i64 i, .int .i64 j] w fun e w' => e = .returned (.bool (frI ss i j)) ∧ Below w.heap.size w w' := by
  have h1 := h.len
  have h2 := h.max
  rw [scells_len] at h1
  have hn := hb.1
  have hw := hb.2.1
  obtain ⟨b, o, rfl, hbB, hc⟩ := h.at (j := 0) (by rw [scells_len]; omega)
  have hc0 := hc 0 _ (gs_at ss 0 (by omega))
  rw [Nat.add_zero] at hc0
  have hca := fun o' => ((bel1 w o').cell (p := ⟨b, o, none⟩) (by show b < _; omega)).trans hc0
  by_cases hi : 0 ≤ i ∧ i < ss.length
  · obtain ⟨hi0, hi1⟩ := hi
    obtain ⟨k, rfl⟩ := Int.eq_ofNat_of_zero_le hi0
    have hk : k < ss.length := by omega
    have hck := hc k _ (gs_at ss k hk)
    have hcka := fun o' => ((bel1 w o').cell (p := ⟨b, o + k, none⟩) (by show b < _; omega)).trans hck
    by_cases hj : 0 ≤ j ∧ j < (gs ss 0).size
    · obtain ⟨hj0, hj1⟩ := hj
      obtain ⟨m, rfl⟩ := Int.eq_ofNat_of_zero_le hj0
      have hm : m < (gs ss k).size := by have := (hb.2.2 k hk).1; omega
      have HF : Hid (frI ss k m = ((gs ss k)[m] == 46)) := by
        show frI ss k m = _
        unfold frI
        rw [Int.toNat_natCast, Int.toNat_natCast, fr_at hm, decide_eq_true ⟨by omega, by omega, by omega, by omega⟩, Bool.true_and]
      have hbyte : ((((gs ss k)[m]).toNat : Int) == 46) = ((gs ss k)[m] == 46) := by
        by_cases e : (gs ss k)[m] = 46
        · rw [e]; rfl
        · exact (beq_f 46 rfl e).trans (by simp [e])
      clear hc h
      go_enter Tryd.func150, Tryd.ntmps150
      go_wp2
      go_ret
      exact ⟨ret_bool HF.out.symm, bel1 _ _⟩
    · have HF : Hid (frI ss k j = false) := by
        show frI ss k j = false
        unfold frI
        rw [decide_eq_false (fun hh => hj ⟨hh.2.2.1, hh.2.2.2⟩), Bool.false_and]
      by_cases hj0 : j < 0
      · clear hj hc h
        go_enter Tryd.func150, Tryd.ntmps150
        go_wp2
        go_ret
        exact ⟨ret_bool HF.out.symm, bel1 _ _⟩
      · have hj1 : ¬ j < (gs ss 0).size := by omega
        have hj2 : 0 ≤ j := by omega
        clear hj hc h
        go_enter Tryd.func150, Tryd.ntmps150
        go_wp2
        go_ret
        exact ⟨ret_bool HF.out.symm, bel1 _ _⟩
  · have HF : Hid (frI ss i j = false) := by
      show frI ss i j = false
      unfold frI
      rw [decide_eq_false (fun hh => hi ⟨hh.1, hh.2.1⟩), Bool.false_and]
    by_cases hi0 : i < 0
    · clear hi hc h
      go_enter Tryd.func150, Tryd.ntmps150
      go_wp2
      go_ret
      exact ⟨ret_bool HF.out.symm, bel1 _ _⟩
    · have hi1 : ¬ i < ss.length := by omega
      have hi2 : 0 ≤ i := by omega
      clear hi hc h
      go_enter Tryd.func150, Tryd.ntmps150
      go_wp2
      go_ret
      exact ⟨ret_bool HF.out.symm, bel1 _ _⟩
theorem frI_in {ss : List ByteArray} {i j : Nat} (hb : boardP ss) (hi : i < ss.length) (hj : j < (gs ss i).size) : frI ss i j = fr ss i j := by
  unfold frI
  have := (hb.2.2 i hi).1
  rw [Int.toNat_natCast, Int.toNat_natCast, decide_eq_true ⟨by omega, by omega, by omega, by omega⟩, Bool.true_and]

def cutL (ss : List ByteArray) (ra ca cb : Nat) : Nat → List ByteArray
  | 0 => []
  | i + 1 => cutL ss ra ca cb i ++ [(gs ss (ra + i)).extract ca (cb + 1)]
theorem cutL_len (ss : List ByteArray) (ra ca cb i : Nat) : (cutL ss ra ca cb i).length = i := by
  induction i with
  | zero => rfl
  | succ i ih => show (cutL ss ra ca cb i ++ _).length = _; rw [List.length_append, ih]; rfl
theorem cutL_eq (ss : List ByteArray) (ra ca cb i : Nat) (h : ra + i ≤ ss.length) : cutL ss ra ca cb i = ((ss.drop ra).take i).map fun r => r.extract ca (cb + 1) := by
  induction i with
  | zero => rfl
  | succ i ih =>
    show cutL ss ra ca cb i ++ _ = _
    rw [ih (by omega), List.take_succ_eq_append_getElem (by rw [List.length_drop]; omega), List.map_append]
    congr 1
    rw [gs_lt (show ra + i < ss.length by omega), List.getElem_drop]
    rfl

def RetT (w : World) (ss : List ByteArray) (e : Ending) (w' : World) : Prop :=
  ∃ A c, e = .returned (.agg #[.slice A ss.length c]) ∧ Own w' w.heap.size 9 (.slice A ss.length c) (scells ss) ∧ Below w.heap.size w w'
set_option maxRecDepth 100000 in
set_option maxHeartbeats 3200000 in
theorem trimI_any (A : Option Addr) (c : Nat) (ss : List ByteArray) (w : World) (B : Nat) (hB : B ≤ w.heap.size) (h : Rd w B A c (scells ss)) (hb : boardP ss) :
    Calls Tryd.prog 153 #[.agg #[.slice A ss.length c]] w (RetT w (trimL ss)) := by
  have h1 := h.len
  have h2 := h.max
  rw [scells_len] at h1
  have hn := hb.1
  have hw := hb.2.1
  have HFREE : Hid (∀ i j W, Below w.heap.size w W → Calls Tryd.prog 150 #[.agg #[.slice A ss.length c], .int .i64 i, .int .i64 j] W fun e w' => e = .returned (.bool (frI ss i j)) ∧ Below W.heap.size W w') := fun i j W hh => free_any A c ss i j W B (by have := hh.size; omega) (h.below hh hB) hb
  obtain ⟨b, o, rfl, hbB, hc⟩ := h.at (j := 0) (by rw [scells_len]; omega)
  have HR : Hid (∀ w', Below w.heap.size w w' → ∀ i, i < ss.length → w'.cell? ⟨b, o + i, none⟩ = some (.string (gs ss i))) := fun w' hh i hi => (hh.cell (p := ⟨b, o + i, none⟩) (by show b < _; omega)).trans (hc i _ (gs_at ss i hi))
  have HASC : Hid (∀ i, i < ss.length → ∀ k (hk : k < (gs ss i).size), (gs ss i)[k].toNat < 128) := by
    intro i hi k hk
    have := allIn_true.1 (hb.2.2 i hi).2 k hk
    simp at this
    rcases this with e | e <;> rw [e] <;> decide
  have HBP := Lib.hid hb
  have hs8 : ∀ i, i < ss.length → (gs ss i).size ≤ 8 := fun i hi => by have := (hb.2.2 i hi).1; omega
  have HS8 := Lib.hid hs8
  have HOK := Lib.hid (fun k (hk : k ≤ ss.length) => okB_scanR (x := 8) (y := 8) hb (by omega) (by omega) k hk)
  clear hc hb hs8
  go_enter Tryd.func153, Tryd.ntmps153
  go_wp2
  obtain ⟨W, hW⟩ : ∃ W, W = (w.alloc (.cells #[.slice (some ⟨b, o, none⟩) ss.length c] 60)).alloc (.cells #[.slice none 0 0] 60) := ⟨_, rfl⟩
  have e0 : Blk W w.heap.size 60 #[.slice (some ⟨b, o, none⟩) ss.length c] := by rw [hW]; exact (Blk.new w _ _).alloc _
  have e1 : Blk W (w.heap.size + 1) 60 #[.slice none 0 0] := by rw [hW]; exact Blk.new_at (w.alloc _) _ _ (by simp)
  have hAW : Below w.heap.size w W := by rw [hW]; exact bel2 _ _ _
  have hzW : W.heap.size = w.heap.size + 2 := by rw [hW]; simp
  rw [← hW]
  clear hW
  have HS : Hid (∀ w', Below W.heap.size W w' → Blk w' w.heap.size 60 #[.slice (some ⟨b, o, none⟩) ss.length c] ∧ Blk w' (w.heap.size + 1) 60 #[.slice none 0 0] ∧ Below w.heap.size w w') := fun w' hh => ⟨e0.below hh (by omega), e1.below hh (by omega), hAW.trans (hh.mono (by omega))⟩
  clear e0 e1
  go_loopw [3, 4, 5, 6, 15] (fun x y z v i wr => ∃ k : Nat, i = .int .i64 k ∧ k ≤ ss.length ∧ x = .int .i64 (scanR ss ⟨8, -1, 8, -1⟩ k).a ∧ y = .int .i64 (scanR ss ⟨8, -1, 8, -1⟩ k).b ∧ z = .int .i64 (scanR ss ⟨8, -1, 8, -1⟩ k).c ∧ v = .int .i64 (scanR ss ⟨8, -1, 8, -1⟩ k).d ∧ Below W.heap.size W wr) (fun _ _ _ _ i _ => ss.length - (intOf i).toNat)
  case atStart => exact ⟨0, rfl, by omega, rfl, rfl, rfl, rfl, Below.refl _ _⟩
  case round =>
    obtain ⟨k, rfl, hk, rfl, rfl, rfl, rfl, hbw⟩ := hrel
    have hzr := hbw.size
    obtain ⟨w1, rfl⟩ : ∃ w1 : World, w1 = wr := ⟨_, rfl⟩
    obtain ⟨s0, -, s2⟩ := HS.out w1 hbw
    by_cases hlt : k < ss.length
    · have q0 : w1.cell? ⟨w.heap.size, 0, none⟩ = some (.slice (some ⟨b, o, none⟩) ss.length c) := s0.cell 0
      have qk : w1.cell? ⟨b, o + k, none⟩ = some (.string (gs ss k)) := HR.out w1 s2 k hlt
      have hsz := HS8.out k hlt
      obtain ⟨V, hV⟩ : ∃ V, V = w1.iter (gs ss k) 0 := ⟨_, rfl⟩
      have kI : ItAt V w1.heap.size (gs ss k) 0 := by rw [hV]; exact ItAt.new _ _
      have hbV : Below w1.heap.size w1 V := by rw [hV]; exact bel1 _ _
      have hzV : V.heap.size = w1.heap.size + 1 := by rw [hV]; simp [World.iter]
      clear s0
      go_wp2
      first | rw [← hV] | (show Code.wp _ _ _ _ _; rw [← hV])
      clear hV q0 qk
      obtain ⟨S, hSd⟩ : ∃ S, S = scanR ss ⟨8, -1, 8, -1⟩ k := ⟨_, rfl⟩
      rw [← hSd]
      have HSD := Lib.hid hSd; clear hSd
      go_loopw [3, 4, 5, 6, 25] (fun x y z v i wv => ∃ j : Nat, j ≤ (gs ss k).size ∧ ItAt wv w1.heap.size (gs ss k) j ∧ x = .int .i64 (scanC ss k S j).a ∧ y = .int .i64 (scanC ss k S j).b ∧ z = .int .i64 (scanC ss k S j).c ∧ v = .int .i64 (scanC ss k S j).d ∧ Below w1.heap.size w1 wv ∧ w1.heap.size + 1 ≤ wv.heap.size) (fun _ _ _ _ _ wv => (gs ss k).size - wv.iterPos w1.heap.size)
      case atStart => exact ⟨0, by omega, kI, rfl, rfl, rfl, rfl, hbV, by omega⟩
      case round =>
        obtain ⟨j, hj, hI, rfl, rfl, rfl, rfl, hbv, hzv⟩ := hrel
        have HPOS := Lib.hid hI.pos
        by_cases hjl : j < (gs ss k).size
        · obtain ⟨w2, hnx, hI2, hg2, hz2⟩ := next_more (P := Tryd.prog) hI hjl (HASC.out k hlt j hjl)
          have hb2 : Below w1.heap.size w1 w2 := hbv.grown hg2 (by omega) fun g hg => by injection hg with hg; omega
          have hbW2 : Below W.heap.size W w2 := gtr hbw hb2
          obtain ⟨t0, -, t2⟩ := HS.out w2 hbW2
          have q0 : w2.cell? ⟨w.heap.size, 0, none⟩ = some (.slice (some ⟨b, o, none⟩) ss.length c) := t0.cell 0
          have hfr := HFREE.out k j w2 t2
          rw [frI_in HBP.out hlt hjl] at hfr
          have HSTEP : Hid (scanC ss k S (j + 1) = stepC ss (scanC ss k S j) k j) := rfl
          obtain ⟨T, hT⟩ : ∃ T, T = scanC ss k S j := ⟨_, rfl⟩
          rw [← hT] at HSTEP ⊢
          have HT := Lib.hid hT; clear hT
          have hnx := hnx 0
          clear hI t0
          cases hf : fr ss k j
          · have HF : Hid (stepC ss T k j = T) := by show stepC ss T k j = T; unfold stepC; rw [hf]; rfl
            rw [hf] at hfr
            have HFR := Lib.hid hfr; clear hfr hf
            go_wp2_with fail
            ((with_reducible refine HFR.out.mono ?_); rintro e w3 ⟨rfl, hb3⟩)
            have hI3 := hI2.below hb3 hI2.lt
            have HPOS3 := Lib.hid hI3.pos
            clear hnx q0
            go_wp2
            go_roundw
            case rel => exact ⟨j + 1, by omega, hI3, by rw [HSTEP.out, HF.out], by rw [HSTEP.out, HF.out], by rw [HSTEP.out, HF.out], by rw [HSTEP.out, HF.out], gtr hb2 hb3, by have := hb3.size; omega⟩
            case measure => rw [HPOS.out, HPOS3.out]; omega
          · have HF : Hid (stepC ss T k j = ⟨min T.a k, max T.b k, min T.c j, max T.d j⟩) := by show stepC ss T k j = _; unfold stepC; rw [hf]; rfl
            rw [hf] at hfr
            have HFR := Lib.hid hfr; clear hfr hf
            go_wp2_with fail
            ((with_reducible refine HFR.out.mono ?_); rintro e w3 ⟨rfl, hb3⟩)
            have hI3 := hI2.below hb3 hI2.lt
            have HPOS3 := Lib.hid hI3.pos
            clear hnx q0
            go_wp2
            go_roundw
            case rel => exact ⟨j + 1, by omega, hI3, by rw [HSTEP.out, HF.out], by rw [HSTEP.out, HF.out], by rw [HSTEP.out, HF.out], by rw [HSTEP.out, HF.out], gtr hb2 hb3, by have := hb3.size; omega⟩
            case measure => rw [HPOS.out, HPOS3.out]; omega
        · obtain rfl : j = (gs ss k).size := by omega
          have hnx := next_end (P := Tryd.prog) hI hjl 0
          have HSC : Hid (scanR ss ⟨8, -1, 8, -1⟩ (k + 1) = scanC ss k S (gs ss k).size) := by show _ = _; rw [HSD.out]; rfl
          go_wp2
          go_roundw
          case rel => exact ⟨k + 1, by go_num, by omega, by rw [HSC.out], by rw [HSC.out], by rw [HSC.out], by rw [HSC.out], gtr hbw hbv⟩
          case measure => simp [intOf]; omega
    · obtain rfl : k = ss.length := by omega
      have hok := HOK.out ss.length (Nat.le_refl _)
      have HTL : Hid (trimL ss = cutB ss (scanR ss ⟨8, -1, 8, -1⟩ ss.length)) := rfl
      obtain ⟨S, hSd⟩ : ∃ S, S = scanR ss ⟨8, -1, 8, -1⟩ ss.length := ⟨_, rfl⟩
      rw [← hSd] at hok HTL ⊢
      clear hSd HOK HASC HS8 HFREE
      have t1 := (HS.out w1 hbw).2.1
      by_cases hneg : S.b < 0
      · have HT : Hid (trimL ss = [⟨#[35]⟩]) := by show trimL ss = _; rw [HTL.out, cutB, if_pos hneg]
        have z0 : ∀ o', (w1.alloc o').cell? ⟨w.heap.size + 1, 0, none⟩ = some (.slice none 0 0) := fun o' => (t1.alloc o').cell 0
        have z1 : ∀ o', (w1.alloc o').frozen? ⟨w.heap.size + 1, 0, none⟩ = false := fun o' => (t1.alloc o').frozen 0
        have hO := Blk.new w1 9 #[.string ⟨#[35]⟩]
        have HO : Hid (Own (w1.alloc (.cells #[.string ⟨#[35]⟩] 9)) w1.heap.size 9 (.slice (some ⟨w1.heap.size, 0, none⟩) 1 1) [.string ⟨#[35]⟩]) := ⟨rfl, .inr ⟨w1.heap.size, 1, #[.string ⟨#[35]⟩], rfl, Nat.le_refl _, hO, Nat.le_refl _, by unfold maxLen; omega, rfl, rfl⟩⟩
        have HB := Lib.hid s2
        clear s0 hO s2
        go_wp2
        refine bodyPost_ret (v := .agg #[.slice (some ⟨w1.heap.size, 0, none⟩) 1 1]) (by simp [results, Tryd.results153, go_sem, z0]) rfl ⟨some ⟨w1.heap.size, 0, none⟩, 1, by rw [HT.out]; rfl, ?_, ?_⟩
        · rw [HT.out]
          exact (HO.out.far _ _ (by simp [Value.ownBlock]; have := HB.out.size; omega)).le HB.out.size
        · exact (HB.out.alloc HB.out.size _).setCell (by dsimp only; omega) _
      · rcases hok with e | hok
        · exact absurd (by rw [e]; decide) hneg
        · obtain ⟨sa, sb, sc, sd⟩ := S
          simp only at hok hneg
          obtain ⟨ra, rfl⟩ := Int.eq_ofNat_of_zero_le hok.1
          obtain ⟨rb, rfl⟩ := Int.eq_ofNat_of_zero_le (show 0 ≤ sb by omega)
          obtain ⟨ca, rfl⟩ := Int.eq_ofNat_of_zero_le hok.2.2.2.1
          obtain ⟨cb, rfl⟩ := Int.eq_ofNat_of_zero_le (show 0 ≤ sd by omega)
          have HT : Hid (trimL ss = cutL ss ra ca cb (rb + 1 - ra)) := by
            show trimL ss = _
            rw [HTL.out, cutB, if_neg hneg, cutL_eq ss ra ca cb (rb + 1 - ra) (by omega)]
            rw [show ((rb : Int) + 1 - (ra : Int)).toNat = rb + 1 - ra by omega, show ((cb : Int) + 1).toNat = cb + 1 by omega, Int.toNat_natCast, Int.toNat_natCast]
          obtain ⟨n, hne⟩ : ∃ n, n = rb + 1 - ra := ⟨_, rfl⟩
          rw [← hne] at HT
          have q0 : ∀ o', (w1.alloc o').cell? ⟨w.heap.size, 0, none⟩ = some (.slice (some ⟨b, o, none⟩) ss.length c) := fun o' => (s0.alloc o').cell 0
          have hcr : ¬ c = ra := by omega
          have hi1 : (ra : Int) ≤ (rb : Int) + 1 := by omega
          have hi2 : (rb : Int) + 1 ≤ (c : Int) := by omega
          have hj1 : (ca : Int) ≤ (cb : Int) + 1 := by omega
          have hk1 := Blk.new w1 60 #[.slice none 0 0]
          have s0' := s0.alloc (.cells #[.slice none 0 0] 60)
          have t1' := t1.alloc (.cells #[.slice none 0 0] 60)
          have hbV := s2.alloc s2.size (.cells #[.slice none 0 0] 60)
          have hzV : (w1.alloc (.cells #[.slice none 0 0] 60)).heap.size = w1.heap.size + 1 := by simp
          have hrb : ra ≤ rb ∧ rb < ss.length := by omega
          have hcb : ca ≤ cb ∧ cb < (gs ss 0).size := by omega
          clear s0 t1 hok hneg HTL
          go_wp2
          generalize w1.alloc (.cells #[.slice none 0 0] 60) = V at *
          obtain ⟨G, hG⟩ : ∃ G, G = w1.heap.size := ⟨_, rfl⟩
          rw [← hG] at hk1 hzV ⊢
          have hGw : w.heap.size + 2 ≤ G := by omega
          clear hG
          rw [← hne]
          have hnr : n + ra = rb + 1 := by omega
          clear hne
          go_loopw [11, 56] (fun x i wr => ∃ (k : Nat) (A' : Option Addr) (c' : Nat), i = .int .i64 k ∧ k ≤ n ∧ Blk wr G 60 #[.slice A' k c'] ∧ Blk wr (w.heap.size + 1) 60 #[.slice none 0 0] ∧ Own wr V.heap.size 9 (.slice A' k c') (scells (cutL ss ra ca cb k)) ∧ Below w.heap.size w wr ∧ V.heap.size ≤ wr.heap.size) (fun _ i _ => n - (intOf i).toNat)
          case atStart => exact ⟨0, none, 0, rfl, by omega, hk1, t1', own_none _ _ _, hbV, Nat.le_refl _⟩
          case round =>
            clear hk1 t1' hbV s0'
            obtain ⟨k, A', c', rfl, hkn, e4, e1, ho, hbb, hzv⟩ := hrel
            by_cases hkl : k < n
            · have hrk : ra + k < ss.length := by omega
              have qk := HR.out wr hbb (ra + k) hrk
              rw [← Nat.add_assoc] at qk
              have hsk := (HBP.out.2.2 (ra + k) hrk).1
              have hcz : cb + 1 ≤ (gs ss (ra + k)).size := by omega
              have hczI : (cb : Int) + 1 ≤ ((gs ss (ra + k)).size : Int) := by omega
              have HX : Hid (cutL ss ra ca cb (k + 1) = cutL ss ra ca cb k ++ [(gs ss (ra + k)).extract ca (cb + 1)]) := rfl
              have hwc : IntKind.i64.wrap ((cb : Int) + 1) = ((cb + 1 : Nat) : Int) := by rw [IntKind.wrap_i64]; omega
              have hwc1 : ((cb + 1 : Nat) : Int) ≤ ((gs ss (ra + k)).size : Int) := by omega
              have hwc2 : (ca : Int) ≤ ((cb + 1 : Nat) : Int) := by omega
              obtain ⟨r, hr⟩ : ∃ r, r = gs ss (ra + k) := ⟨_, rfl⟩
              rw [← hr] at qk hcz hczI HX hwc1
              have q4 : wr.cell? ⟨G, 0, none⟩ = some (.slice A' k c') := e4.cell 0
              have q4a : ∀ o', (wr.alloc o').cell? ⟨G, 0, none⟩ = some (.slice A' k c') := fun o' => (e4.alloc o').cell 0
              have z4 := e4.frozen 0
              have HO := Lib.hid ho; have HE4 := Lib.hid e4; have HE1 := Lib.hid e1
              have HN : Hid ((scells (cutL ss ra ca cb k)).length = k) := by show _ = _; rw [scells_len, cutL_len]
              have E5 : Hid ((scells (cutL ss ra ca cb k)).length + [Value.string (r.extract ca (cb + 1))].length = k + 1) := by show _ = _; rw [HN.out]; rfl
              have hk8 : k ≤ 8 := by omega
              clear ho e4 e1 hsk hr
              go_wp2
              go_region_law
                (first
                  | (refine step_append_rd (by rfl) (.tmp 61) (.tmp 67) 53 9 (.string ByteArray.empty) 16 (by rfl) Tryd.underlying53 infoStr rfl (by omega) V.heap.size (.slice A' k c') (scells (cutL ss ra ca cb k)) (by rfl) ((HO.out.below (gdrew (a := wr))).below (bel1 _ _)) _ _ 1 1 [.string (r.extract ca (cb + 1))] (by rfl) rfl (Rd.of_blk (Blk.new _ _ _) (Nat.lt_succ_self _)) (fun u hu => by simp at hu; subst hu; rfl) (by rw [HN.out]; simp; omega) (by simp; omega) ?_; intro A5 c5 w5 ho5 hb5 hg5; have hne : ∀ g, g < V.heap.size → some g ≠ (Value.slice A' k c').ownBlock := (fun g hg he => by have := (HO.out.lt g he.symm).1; omega); have f5 := ((HE4.out.below (gdrew (a := wr)) HE4.out.lt).alloc (.cells #[.string (r.extract ca (cb + 1))] 9)).grown hg5 (hne _ (by omega)); have f1 := ((HE1.out.below (gdrew (a := wr)) HE1.out.lt).alloc (.cells #[.string (r.extract ca (cb + 1))] 9)).grown hg5 (hne _ (by omega)); have s5 : w5.cell? ⟨G, 0, none⟩ = some (.slice A' k c') := f5.cell 0; have z5 := f5.frozen 0; rw [E5.out] at ho5 ⊢))
              all_goals
                have HO5 : Hid (Own w5 V.heap.size 9 (.slice A5 (k + 1) c5) (scells (cutL ss ra ca cb (k + 1)))) := by
                  show Own _ _ _ _ _
                  rw [HX.out]
                  have e : scells (cutL ss ra ca cb k ++ [r.extract ca (cb + 1)]) = scells (cutL ss ra ca cb k) ++ [.string (r.extract ca (cb + 1))] := scells_snoc _ _
                  rw [e]; exact ho5
                clear ho5
                go_wp2
                go_roundw
                case rel =>
                  have hz5 := hb5.size
                  simp at hz5
                  refine ⟨k + 1, A5, c5, by go_num, by omega, f5.set 0 _, f1.far (by dsimp only; omega) _, HO5.out.far' _ _ (by dsimp only; omega), ?_, by simp; omega⟩
                  exact (((gtr hbb (gdrew (a := wr))).alloc (by have := hbb.size; show w.heap.size ≤ wr.heap.size; omega) _).trans (hb5.mono (by omega))).setCell (by dsimp only; omega) _
                case measure => simp [intOf]; omega
            · obtain rfl : k = n := by omega
              have z1 : wr.cell? ⟨w.heap.size + 1, 0, none⟩ = some (.slice none 0 0) := e1.cell 0
              have z2 := e1.frozen 0
              have q4 : wr.cell? ⟨G, 0, none⟩ = some (.slice A' k c') := e4.cell 0
              have HO := Lib.hid ho; have HB := Lib.hid hbb
              have HL : Hid ((cutL ss ra ca cb k).length = k) := cutL_len _ _ _ _ _
              clear ho hbb e1 e4
              go_wp2
              refine bodyPost_ret (v := .agg #[.slice A' k c']) (by simp [results, Tryd.results153, go_sem, z1]) rfl ⟨A', c', by rw [HT.out, HL.out], ?_, ?_⟩
              · rw [HT.out, HL.out]
                exact (HO.out.far' _ _ (by dsimp only; omega)).le (by omega)
              · exact HB.out.setCell (by dsimp only; omega) _
end Go.Proofs.YtadljglcbieifaaDoor
