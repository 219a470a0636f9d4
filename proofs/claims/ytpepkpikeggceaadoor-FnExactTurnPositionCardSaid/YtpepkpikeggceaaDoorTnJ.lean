/- Positions joined: the program's and the reference's, by contract. Conditions: none. -/
import Derived.Test.YtpepkpikeggceaaDoorTnS
namespace Go.Proofs.YtpepkpikeggceaaDoor
open Go.RowKit
set_option linter.unusedVariables false

/-- Singles joined by plus signs. -/
def jw (ss : List ByteArray) : List UInt8 := Lib.join (ss.map (·.data.toList)) (⟨#[32, 43, 32]⟩ : ByteArray).data.toList
def jnB (ss : List ByteArray) : ByteArray := if ss.length = 0 then ⟨#[110, 111, 110, 101]⟩ else ⟨(jw ss).toArray⟩
theorem jw_step (ss : List ByteArray) (k : Nat) (h : k < ss.length) : jw (ss.take (k + 1)) = if k = 0 then (gs ss k).data.toList else jw (ss.take k) ++ [32, 43, 32] ++ (gs ss k).data.toList := by
  cases ss with
  | nil => simp at h
  | cons x r =>
    cases k with
    | zero => simp [jw, gs, Lib.join_one]
    | succ k =>
      have h' : k < r.length := by simpa using h
      have e : gs (x :: r) (k + 1) = r[k] := by simp [gs, h']
      have hr : (r.map (·.data.toList))[k]? = some r[k].data.toList := by rw [List.getElem?_map, List.getElem?_eq_getElem h']; rfl
      simp only [jw, List.take_succ_cons, List.map_cons, Lib.join_cons, e, List.map_take]
      rw [Lib.joinTail_take_succ _ _ k _ hr]
      simp
theorem jw_len (ss : List ByteArray) (h : ∀ j, j < ss.length → (gs ss j).size ≤ 80) (k : Nat) (hk : k ≤ ss.length) : (jw (ss.take k)).length ≤ 83 * k := by
  induction k with
  | zero => simp [jw, Lib.join_nil]
  | succ k ih =>
    have h1 := h k hk
    have h2 := ih (by omega)
    rw [← data_len] at h1
    rw [jw_step ss k hk]
    split
    · omega
    · rw [List.length_append, List.length_append]
      show _ + 3 + _ ≤ _
      omega

set_option maxHeartbeats 1600000 in
theorem joinS_any (A : Option Addr) (c : Nat) (ss : List ByteArray) (w : World) (B : Nat) (hB : B ≤ w.heap.size) (h : Rd w B A c (scells ss)) (hl6 : ss.length ≤ 6) (hz : Hid (∀ j, j < ss.length → (gs ss j).size ≤ 80)) :
    Calls Tryd.prog 12 #[.slice A ss.length c] w fun e w' => e = .returned (.string (jnB ss)) ∧ Below w.heap.size w w' := by
  by_cases hl0 : ss.length = 0
  · have HJ : Hid (jnB ss = ⟨#[110, 111, 110, 101]⟩) := Lib.hid (by unfold jnB; rw [if_pos hl0])
    obtain ⟨y, hy⟩ : ∃ y, y = jnB ss := ⟨_, rfl⟩
    rw [← hy] at HJ ⊢
    rw [HJ.out, hl0]
    clear hy HJ h
    go_enter Tryd.func12, Tryd.ntmps12
    go_wp2
    go_ret
    exact ⟨rfl, Below.refl _ _⟩
  · have h1 := h.len
    have h2 := h.max
    rw [scells_len] at h1
    obtain ⟨b, o, rfl, hbB, hc⟩ := h.at (j := 0) (by rw [scells_len]; omega)
    have HC : Hid (∀ i, i < ss.length → w.cell? ⟨b, o + i, none⟩ = some (.string (gs ss i))) := fun i hi => hc i _ (gs_at ss i hi)
    have HJ : Hid (jnB ss = ⟨(jw ss).toArray⟩) := Lib.hid (by unfold jnB; rw [if_neg hl0])
    obtain ⟨y, hy⟩ : ∃ y, y = jnB ss := ⟨_, rfl⟩
    rw [← hy] at HJ ⊢
    have hl0I : ¬ (ss.length : Int) = 0 := by omega
    clear hc h hy
    go_enter Tryd.func12, Tryd.ntmps12
    go_wp2
    go_loop [3, 4] (fun x y => ∃ (k : Nat) (s : ByteArray), y = .int .i64 k ∧ k ≤ ss.length ∧ x = .string s ∧ s.data.toList = jw (ss.take k)) (fun _ y => ss.length - (intOf y).toNat)
    case atStart => exact ⟨0, _, rfl, by omega, rfl, rfl⟩
    case round =>
      obtain ⟨k, s, rfl, hk, rfl, hs⟩ := hrel
      have hsz := jw_len ss hz.out k hk
      rw [← hs, data_len] at hsz
      have HS := Lib.hid hs; clear hs
      by_cases hlt : k < ss.length
      · have q := HC.out k hlt
        have hzk := hz.out k hlt
        have HST := Lib.hid (jw_step ss k hlt)
        by_cases h0 : k = 0
        · obtain ⟨s', hs'⟩ : ∃ s', s' = s ++ gs ss k := ⟨_, rfl⟩
          have hadd := fun w => run_string_add_sum (P := Tryd.prog) w s (gs ss k) (by omega)
          rw [← hs'] at hadd
          have HS' : Hid (s'.data.toList = jw (ss.take (k + 1))) := by
            show _ = _
            rw [hs', data_append, HS.out, HST.out, if_pos h0, h0]; rfl
          have ht : ¬ (0 : Int) < (k : Int) := by omega
          clear hs' h0
          go_wp2
          go_round
          case rel => exact ⟨k + 1, s', by go_num, by omega, rfl, HS'.out⟩
          case measure => simp [intOf]; omega
        · obtain ⟨s1, hs1⟩ : ∃ s1, s1 = s ++ (⟨#[32, 43, 32]⟩ : ByteArray) := ⟨_, rfl⟩
          obtain ⟨s', hs'⟩ : ∃ s', s' = s1 ++ gs ss k := ⟨_, rfl⟩
          have hadd1 := fun w => run_string_add_sum (P := Tryd.prog) w s ⟨#[32, 43, 32]⟩ (by show s.size + 3 ≤ _; omega)
          have hz1 : s1.size = s.size + 3 := by rw [hs1]; simp [ByteArray.size_append]; rfl
          have hadd := fun w => run_string_add_sum (P := Tryd.prog) w s1 (gs ss k) (by omega)
          rw [← hs'] at hadd
          rw [← hs1] at hadd1
          have HS' : Hid (s'.data.toList = jw (ss.take (k + 1))) := by
            show _ = _
            rw [hs', data_append, hs1, data_append, HS.out, HST.out, if_neg h0]
          have ht : (0 : Int) < (k : Int) := by omega
          clear hs' hs1 h0
          go_wp2
          go_round
          case rel => exact ⟨k + 1, s', by go_num, by omega, rfl, HS'.out⟩
          case measure => simp [intOf]; omega
      · obtain rfl : k = ss.length := by omega
        have HE : Hid (s = y) := Lib.hid (by rw [HJ.out]; exact str_of s (by rw [HS.out, List.take_length]))
        go_wp2
        go_ret
        exact ⟨by rw [HE.out]; rfl, Below.refl _ _⟩

theorem ownsK_at {w : World} {base n c k : Nat} {E : TypeId} {A : Option Addr} {cs : List Value} (h : w.ownsRow base E k (.slice A n c) n cs) (hn : 0 < n) :
    ∃ g, A = some ⟨g, 0, none⟩ ∧ base ≤ g ∧ g < w.heap.size ∧ n ≤ c ∧ (∀ i, i < n * k → w.cell? ⟨g, i, none⟩ = cs[i]?) ∧ ∀ i, w.frozen? ⟨g, i, none⟩ = false := by
  rcases h.2 with ⟨hv, h0⟩ | ⟨g, cap, cur, hv, hb, hh, hnc, _⟩
  · omega
  · injection hv with hA hn' hc
    subst hA hc
    have hlt := h.lt g rfl
    exact ⟨g, rfl, hb, hlt.2, hnc, fun i hi => h.cellAt i hi, fun i => h.frozenAt i⟩
theorem cc_get (l : List (ByteArray × ByteArray)) (k : Nat) (h : k < l.length) : (cc l)[k * 2]? = some (.string (l[k]).1) ∧ (cc l)[k * 2 + 1]? = some (.string (l[k]).2) := by
  induction l generalizing k with
  | nil => simp at h
  | cons p r ih =>
    cases k with
    | zero => exact ⟨rfl, rfl⟩
    | succ k =>
      have h' : k < r.length := by simpa using h
      have e1 : (cc (p :: r))[(k + 1) * 2]? = (cc r)[k * 2]? := by rw [show (k + 1) * 2 = k * 2 + 1 + 1 by omega]; rfl
      have e2 : (cc (p :: r))[(k + 1) * 2 + 1]? = (cc r)[k * 2 + 1]? := by rw [show (k + 1) * 2 + 1 = k * 2 + 1 + 1 + 1 by omega]; rfl
      rw [e1, e2]
      exact ih k h'
/-- The text of a component. -/
def tx (p : ByteArray × ByteArray) : ByteArray := (p.1 ++ ⟨#[32]⟩) ++ p.2
set_option maxHeartbeats 400000 in
theorem compText_any (a t : ByteArray) (w : World) (ha : a.size ≤ 1000) (ht : t.size ≤ 1000) :
    Calls Tryd.prog 31 #[.agg #[.string a, .string t]] w fun e w' => e = .returned (.string (tx (a, t))) ∧ Below w.heap.size w w' := by
  obtain ⟨y, hy⟩ : ∃ y, y = tx (a, t) := ⟨_, rfl⟩
  rw [← hy]
  obtain ⟨x1, hx1⟩ : ∃ x1, x1 = a ++ ⟨#[32]⟩ := ⟨_, rfl⟩
  have hxs : x1.size ≤ 1001 := by rw [hx1, ByteArray.size_append]; show a.size + 1 ≤ _; omega
  have hadd1 := fun w => run_string_add_sum (P := Tryd.prog) w a ⟨#[32]⟩ (by show a.size + 1 ≤ _; omega)
  have hadd2 := fun w => run_string_add_sum (P := Tryd.prog) w x1 t (by omega)
  have e2 : x1 ++ t = y := by rw [hy, hx1]; rfl
  rw [e2] at hadd2
  rw [← hx1] at hadd1
  clear hx1 hy e2
  go_enter Tryd.func31, Tryd.ntmps31
  go_wp2
  go_ret
  exact ⟨rfl, bel1 _ _⟩

set_option maxHeartbeats 1600000 in
theorem joinI_any (A : Option Addr) (c : Nat) (ps : List (ByteArray × ByteArray)) (w : World) (B : Nat) (h : w.ownsRow B 34 2 (.slice A ps.length c) ps.length (cc ps)) (hl6 : ps.length ≤ 6) (hz : Hid (∀ p, p ∈ ps → p.1.size ≤ 6 ∧ p.2.size ≤ 73)) :
    Calls Tryd.prog 14 #[.slice A ps.length c] w fun e w' => e = .returned (.string (jnB (ps.map tx))) ∧ Below w.heap.size w w' := by
  obtain ⟨y, hy⟩ : ∃ y, y = jnB (ps.map tx) := ⟨_, rfl⟩
  rw [← hy]
  by_cases hl0 : ps.length = 0
  · have HJ : Hid (y = ⟨#[110, 111, 110, 101]⟩) := Lib.hid (by rw [hy]; unfold jnB; rw [if_pos (by rw [List.length_map]; exact hl0)])
    rw [HJ.out, hl0]
    clear hy HJ h
    go_enter Tryd.func14, Tryd.ntmps14
    go_wp2
    go_ret
    exact ⟨rfl, Below.refl _ _⟩
  · obtain ⟨g, rfl, hBg, hgw, hnc, hcell, -⟩ := ownsK_at h (by omega)
    have HC := Lib.hid hcell
    have HJ : Hid (y = ⟨(jw (ps.map tx)).toArray⟩) := Lib.hid (by rw [hy]; unfold jnB; rw [if_neg (by rw [List.length_map]; exact hl0)])
    have hl0I : ((ps.length : Int) == 0) = false := beq_eq_false_iff_ne.2 (by omega)
    clear hcell hy h
    go_enter Tryd.func14, Tryd.ntmps14
    go_wp2_with fail
    have HE := Lib.hid (Own.empty w 9 9 w.heap.size (Nat.le_refl _))
    have HZ := Lib.hid (bel1 w (.cells #[] 9))
    generalize w.alloc (.cells #[] 9) = V at *
    go_loopw [3, 12] (fun x i wr => ∃ (k : Nat) (A' : Option Addr) (c' : Nat) (os : List ByteArray), i = .int .i64 k ∧ k ≤ ps.length ∧ Hid (os = (ps.take k).map tx) ∧ os.length ≤ 6 ∧ x = .slice A' os.length c' ∧ Own wr w.heap.size 9 (.slice A' os.length c') (scells os) ∧ Below w.heap.size w wr) (fun _ i _ => ps.length - (intOf i).toNat)
    case atStart => exact ⟨0, _, _, [], rfl, Nat.zero_le _, Lib.hid rfl, by simp, rfl, HE.out, HZ.out⟩
    case round =>
      clear HE HZ
      obtain ⟨k, A', c', os, rfl, hk, HOS, ho6, rfl, ho, hb⟩ := hrel
      have HO := Lib.hid ho
      clear ho
      have hzr := hb.size
      by_cases hlt : k < ps.length
      · have hk6 : os.length + 1 ≤ 6 := by have := congrArg List.length HOS.out; rw [List.length_map, List.length_take] at this; omega
        obtain ⟨c0, c1⟩ := cc_get ps k hlt
        have q0 : wr.cell? ⟨g, k * 2, none⟩ = some (.string (ps[k]).1) := ((hb.cell (p := ⟨g, k * 2, none⟩) hgw).trans (HC.out _ (by omega))).trans c0
        have q1 : wr.cell? ⟨g, k * 2 + 1, none⟩ = some (.string (ps[k]).2) := ((hb.cell (p := ⟨g, k * 2 + 1, none⟩) hgw).trans (HC.out _ (by omega))).trans c1
        obtain ⟨z1, z2⟩ := hz.out ps[k] (List.getElem_mem hlt)
        have HOS2 : Hid (os ++ [tx ps[k]] = (ps.take (k + 1)).map tx) := Lib.hid (by rw [List.take_succ_eq_append_getElem hlt, List.map_append, HOS.out]; rfl)
        have HTX := Lib.hid fun W => compText_any (ps[k]).1 (ps[k]).2 W (by omega) (by omega)
        obtain ⟨x, hx⟩ : ∃ x, x = tx ps[k] := ⟨_, rfl⟩
        change Hid (∀ W, Calls _ _ _ _ fun e w' => e = .returned (.string (tx ps[k])) ∧ _) at HTX
        rw [← hx] at HTX HOS2
        obtain ⟨a, ha⟩ : ∃ a, a = (ps[k]).1 := ⟨_, rfl⟩
        obtain ⟨t, ht⟩ : ∃ t, t = (ps[k]).2 := ⟨_, rfl⟩
        rw [← ha] at q0 HTX z1
        rw [← ht] at q1 HTX z2
        clear hx ha ht c0 c1 HOS
        go_wp2_with (first | (go_at_call 31; (with_reducible refine (HTX.out _).mono ?_); rintro e w2 ⟨rfl, hb2⟩; have g2 : Below wr.heap.size wr w2 := gtr (bel1 _ _) hb2; have hz2 := g2.size) | (at_builtin; refine append_str rfl _ _ rfl w.heap.size _ os rfl (HO.out.below (gtr g2 (bel1 _ _))) _ x rfl ((Blk.new _ _ _).cell 0) (by omega) (by simp; omega) ?_; intro A5 c5 w5 ho5 hb5 hg5))
        have HO5 := Lib.hid ho5; clear ho5
        go_roundw
        case rel => exact ⟨k + 1, A5, c5, os ++ [x], by go_num, by omega, HOS2, by rw [List.length_append, List.length_singleton]; omega, by rw [List.length_append]; rfl, by rw [List.length_append]; exact HO5.out, (hb.trans (g2.mono hzr)).trans (((bel1 _ _).mono (by omega)).trans hb5)⟩
        case measure => simp [intOf]; omega
      · obtain rfl : k = ps.length := by omega
        have hos : os = ps.map tx := by have := HOS.out; rw [List.take_length] at this; exact this
        have hosl : os.length = ps.length := by rw [hos, List.length_map]
        have hsz : ∀ j, j < os.length → (gs os j).size ≤ 80 := fun j hj => by
          have hj2 : j < ps.length := by omega
          have : gs os j = tx ps[j] := by rw [hos]; simp [gs, hj2]
          rw [this]
          obtain ⟨z1, z2⟩ := hz.out ps[j] (List.getElem_mem hj2)
          unfold tx
          rw [ByteArray.size_append, ByteArray.size_append]
          show _ + 1 + _ ≤ 80
          omega
        have hjl := jw_len os hsz os.length (Nat.le_refl _)
        rw [List.take_length] at hjl
        rw [← hos] at HJ
        have hrd := HO.out.rd
        have h1 := hrd.len
        have h2 := hrd.max
        rw [scells_len] at h1
        obtain ⟨b, o, rfl, hbB, hcc⟩ := hrd.at (j := 0) (by rw [scells_len]; omega)
        have hJ : Calls Tryd.prog 32 #[.slice (some ⟨b, o, none⟩) os.length c', .string ⟨#[32, 43, 32]⟩] wr fun e w' => e = .returned (.string y) ∧ Below wr.heap.size wr w' := by
          rw [HJ.out]
          exact Any.strings_Join Tryd.lays156 builderX b o c' os ⟨#[32, 43, 32]⟩ wr (fun j x hx => by
            obtain ⟨hj, hx⟩ := List.getElem?_eq_some_iff.1 hx
            rw [hcc j _ (gs_at os j hj), gs_lt hj, hx]) (by omega) (by omega) h1 (by show (jw os).length ≤ _; omega)
        have HJJ := Lib.hid hJ
        clear hJ hcc hrd hos hosl hsz HJ HOS HC HO
        go_wp2_with (go_at_call 32; (with_reducible refine HJJ.out.mono ?_); rintro e w2 ⟨rfl, hb2⟩)
        go_ret
        exact ⟨rfl, gtr hb hb2⟩
end Go.Proofs.YtpepkpikeggceaaDoor
