/- The program's longest play, with its map of what is known. Conditions: none. -/
import Derived.Test.YtadljglcbieifaaDoorLong0
import Derived.Maps.OwnSet
import Derived.Maps.OwnOps
import Derived.Maps.Views
namespace Go.Proofs.YtadljglcbieifaaDoor
open Go.RowKit Go.Maps
set_option linter.unusedVariables false

theorem keyedS : Keyed Tryd.prog 9 := string_keyed Tryd.underlying9
theorem zeroInt (w : World) : (zeroValue 3).run Tryd.prog w = .ok (.int .i64 0) w := by kernel_rfl

/-- Block b holds what is known of strips of a kind: K. -/
def MapL (w : World) (b : Nat) (kind : Int) (n : Nat) (K : List ByteArray) : Prop :=
  ∃ D : DataW Unit, w.ownsMap Tryd.prog 9 (plainElem (H := Unit) Tryd.prog 3) b K.length D ∧ K.Nodup ∧ (∀ t ∈ K, In3 kind n t) ∧
    (∀ t : ByteArray, Maps.has D (.string t.data.toList) = true ↔ t ∈ K) ∧ (∀ t ∈ K, D.atKey (.string t.data.toList) (.lit (.int .i64 0)) = .lit (.int .i64 (lg kind t)))
theorem MapL.kept {w w' : World} {b n : Nat} {kind : Int} {K : List ByteArray} {row : Option Nat} (h : MapL w b kind n K) (hg : w.grownBy w' row) (hne : some b ≠ row) : MapL w' b kind n K := by
  obtain ⟨D, h1, r⟩ := h
  exact ⟨D, h1.kept hg hne, r⟩
theorem below_grown {w w' : World} (h : Below w.heap.size w w') (row : Option Nat) : w.grownBy w' row := ⟨h.os, h.tape, h.output, h.size, fun k hk _ => h.block k hk⟩
theorem grefl (w : World) (row : Option Nat) : w.grownBy w row := ⟨rfl, rfl, rfl, Nat.le_refl _, fun _ _ _ => rfl⟩
theorem MapL.lt {w : World} {b n : Nat} {kind : Int} {K : List ByteArray} (h : MapL w b kind n K) : b < w.heap.size := by
  obtain ⟨D, h1, r⟩ := h
  exact h1.lt
theorem key_inj {a b : ByteArray} (h : Lit.string a.data.toList = Lit.string b.data.toList) : a = b := by
  injection h with h
  exact str_inj h
theorem MapL.put {w' : World} {b n : Nat} {kind : Int} {K : List ByteArray} {D : DataW Unit} (s : ByteArray) (hs : In3 kind n s) (hn : s ∉ K)
    (hm : IsMap D) (hd : K.Nodup) (hK : ∀ t ∈ K, In3 kind n t) (hh : ∀ t : ByteArray, Maps.has D (.string t.data.toList) = true ↔ t ∈ K) (ha : ∀ t ∈ K, D.atKey (.string t.data.toList) (.lit (.int .i64 0)) = .lit (.int .i64 (lg kind t)))
    (ho : w'.ownsMap Tryd.prog 9 (plainElem (H := Unit) Tryd.prog 3) b (K.length + 1) (D.put (.string s.data.toList) (.lit (.int .i64 (lg kind s))))) : MapL w' b kind n (s :: K) := by
  refine ⟨_, ho, List.nodup_cons.2 ⟨hn, hd⟩, ?_, ?_, ?_⟩
  · intro t ht
    rcases List.mem_cons.1 ht with rfl | ht
    · exact hs
    · exact hK t ht
  · intro t
    by_cases e : t = s
    · subst e
      rw [has_put_same hm (by trivial)]
      simp
    · rw [has_put_other (fun h => e (key_inj h)), hh]
      simp [e]
  · intro t ht
    by_cases e : t = s
    · subst e
      rw [atKey_put_same hm (by trivial)]
    · rw [atKey_put_other (fun h => e (key_inj h))]
      rcases List.mem_cons.1 ht with rfl | ht
      · exact absurd rfl e
      · exact ha t ht

/-- The moves of the first r sides. -/
def sides2 (kind : Int) (s : ByteArray) : Nat → List ByteArray
  | 0 => []
  | 1 => movesL kind true s
  | _ => both kind s
theorem sides2_succ (kind : Int) (s : ByteArray) (r : Nat) (h : r < 2) : sides2 kind s (r + 1) = sides2 kind s r ++ movesL kind (r == 0) s := by
  rcases r with _ | _ | r
  · rfl
  · rfl
  · omega
theorem mxs_take (g : ByteArray → Nat) (P ts : List ByteArray) (j : Nat) (h : j < ts.length) : mxs g (P ++ ts.take (j + 1)) = max (mxs g (P ++ ts.take j)) (1 + g (ts[j])) := by
  rw [List.take_add_one, List.getElem?_eq_getElem h, Option.toList_some, ← List.append_assoc, mxs_snoc]

set_option maxRecDepth 100000 in
set_option maxHeartbeats 3200000 in
theorem longI_any (kind : Int) (h1 : 0 ≤ kind) (h2 : kind ≤ 3) (n : Nat) (hn7 : n ≤ 7) : ∀ (m : Nat) (s : ByteArray) (w : World) (b : Nat) (K : List ByteArray), In3 kind n s → mu kind s < m → MapL w b kind n K →
    Calls Tryd.prog 104 #[.int .i64 kind, .string s, .map (some b)] w fun e w' =>
      e = .returned (.int .i64 (lg kind s)) ∧ (∃ K', MapL w' b kind n K' ∧ ∀ t ∈ K', t ∈ K ∨ mu kind t ≤ mu kind s) ∧ w.grownBy w' (some b) := by
  intro m
  induction m with
  | zero => intro s w b K _ h; omega
  | succ m ih =>
    intro s w b K hs hmu hM
    have HI := Lib.hid ih; clear ih
    have hsz : s.size ≤ 12 := by have := hs.1; omega
    have hkey := WideMaps.keyOf_string_mk (P := Tryd.prog) (k := 9) Tryd.underlying9 (s := s) (by unfold maxLen; omega)
    have HS := Lib.hid hs
    clear hs
    by_cases hin : s ∈ K
    · have HM := Lib.hid hM
      obtain ⟨D, ho, hd, hK, hh, ha⟩ := hM
      have hhit : Maps.has D (.string s.data.toList) = true := (hh s).2 hin
      have hval := ha s hin
      have HH := Lib.hid hh; have HA := Lib.hid ha; have HK := Lib.hid hK
      clear hh ha hK hd
      go_enter Tryd.func104, Tryd.ntmps104
      go_wp2_with (first | (at_lookup; refine wpList_lookup_own_ok_int _ rfl _ _ 123 rfl 9 3 .i64 keyedS Tryd.underlying123 Tryd.underlying3 (zeroInt _) b _ D rfl ho _ _ rfl hkey ?_; intro c hat hwc; rw [hhit]; have HAT := Lib.hid (hat.symm.trans hval); clear hat hval) | go_in)
      go_ret
      have hc : c = (lg kind s : Int) := by have := HAT.out; injection this with this; injection this
      exact ⟨by rw [hc]; rfl, ⟨K, HM.out, fun t ht => .inl ht⟩, grefl _ _⟩
    · have hM' := hM
      obtain ⟨D, ho, hd, hK, hh, ha⟩ := hM
      have hmiss : Maps.has D (.string s.data.toList) = false := by rw [Bool.eq_false_iff]; exact fun h => hin ((hh s).1 h)
      clear hh ha hK hd
      go_enter Tryd.func104, Tryd.ntmps104
      go_wp2_with (first | (at_lookup; refine wpList_lookup_own_ok_int _ rfl _ _ 123 rfl 9 3 .i64 keyedS Tryd.underlying123 Tryd.underlying3 (zeroInt _) b _ D rfl ho _ _ rfl hkey ?_; intro c hat hwc; rw [hmiss]; clear hat hwc) | go_in)
      clear ho hmiss
      have HG2 : Hid (∀ r, r < 2 → sides2 kind s (r + 1) = sides2 kind s r ++ movesL kind (r == 0) s) := fun r hr => sides2_succ kind s r hr
      have HLE : Hid (∀ r, r ≤ 2 → ∀ t ∈ sides2 kind s r, In3 kind n t ∧ mu kind t < mu kind s) := fun r hr t ht => by
        rcases r with _ | _ | r
        · simp [sides2] at ht
        · exact moves_mu h1 h2 HS.out ht
        · exact both_mu h1 h2 HS.out ht
      have hlt0 := hM'.lt
      go_loopw [9, 23] (fun n' i wr => ∃ (r : Nat) (K' : List ByteArray), i = .int .i64 r ∧ r ≤ 2 ∧ n' = .int .i64 (mxs (lg kind) (sides2 kind s r)) ∧ MapL wr b kind n K' ∧ (∀ t ∈ K', t ∈ K ∨ mu kind t < mu kind s) ∧ w.grownBy wr (some b)) (fun _ i _ => 2 - (intOf i).toNat)
      case atStart => exact ⟨0, K, rfl, by omega, rfl, hM', fun t ht => .inl ht, grefl _ _⟩
      case round =>
        clear hM'
        obtain ⟨r, K', rfl, hr, rfl, hMr, hKr, hgr⟩ := hrel
        by_cases hlt : r < 2
        · have HKR := Lib.hid hKr; clear hKr
          have HGR := Lib.hid hgr
          have HLr := Lib.hid (HLE.out (r + 1) (by omega))
          obtain ⟨lf, hlf⟩ : ∃ lf, lf = (r == 0) := ⟨_, rfl⟩
          obtain ⟨ts, hts⟩ : ∃ ts, ts = movesL kind lf s := ⟨_, rfl⟩
          have HN : Hid (sides2 kind s (r + 1) = sides2 kind s r ++ ts) := by show _ = _; rw [hts, hlf]; exact HG2.out r hlt
          have hCm : ∀ W, Calls Tryd.prog 108 #[.int .i64 kind, .string s, .bool lf] W (RetS W ts) := fun W => by rw [hts]; exact movesI_any kind _ s W h1 h2 hsz
          have HLn : Hid (ts.length ≤ 24) := by show _ ≤ _; rw [hts]; exact movesL_le kind _ s hsz
          clear hts
          have HP : Hid (∀ j, j ≤ ts.length → mxs (lg kind) (sides2 kind s r ++ ts.take j) ≤ 49) := fun j hj => by
            refine mxs_le _ _ _ fun t ht => ?_
            have hm : t ∈ sides2 kind s (r + 1) := by
              rw [HN.out]
              rcases List.mem_append.1 ht with h | h
              · exact List.mem_append_left _ h
              · exact List.mem_append_right _ (List.mem_of_mem_take h)
            obtain ⟨k1, k2⟩ := HLr.out t hm
            have k3 := lg_le h1 h2 _ t k1 (Nat.le_refl _)
            have k4 := mu_le kind s
            have k5 : s.size * s.size ≤ 7 * 7 := Nat.mul_le_mul (by rw [HS.out.1]; exact hn7) (by rw [HS.out.1]; exact hn7)
            omega
          have HTJ : Hid (∀ j, (hj : j < ts.length) → In3 kind n ts[j] ∧ mu kind ts[j] < mu kind s) := fun j hj => HLr.out _ (by rw [HN.out]; exact List.mem_append_right _ (List.getElem_mem hj))
          have HMX : Hid (∀ j, (hj : j < ts.length) → mxs (lg kind) (sides2 kind s r ++ ts.take (j + 1)) = max (mxs (lg kind) (sides2 kind s r ++ ts.take j)) (1 + lg kind ts[j])) := fun j hj => mxs_take _ _ _ j hj
          have HCM := Lib.hid hCm; clear hCm
          have hfin : sides2 kind s (r + 1) = sides2 kind s r ++ ts.take ts.length := by rw [List.take_length]; exact HN.out
          have HFIN := Lib.hid hfin; clear hfin
          generalize sides2 kind s r = Pf at *
          obtain ⟨B0, hB0⟩ : ∃ B0, B0 = wr.heap.size := ⟨_, rfl⟩
          have i0 : ∀ w : World, (Instr.index 165 (.agg #[.bool true, .bool false]) (.int .i64 0)).run Tryd.prog w = .ok (.bool true) w := fun _ => by kernel_rfl
          have i1 : ∀ w : World, (Instr.index 165 (.agg #[.bool true, .bool false]) (.int .i64 1)).run Tryd.prog w = .ok (.bool false) w := fun _ => by kernel_rfl
          obtain rfl | rfl : r = 0 ∨ r = 1 := by omega
          all_goals
            first
              | (have hlt' : lf = true := by rw [hlf]; rfl
                 subst hlt')
              | (have hlt' : lf = false := by rw [hlf]; rfl
                 subst hlt')
            clear hlf
            go_wp2_with fail
            ((with_reducible refine (HCM.out _).mono ?_); rintro e w1 ⟨A, c, rfl, ho, hb⟩)
            have hM1 := hMr.kept (below_grown hb none) (by simp)
            have hg1 := hgr.trans (below_grown hb (some b))
            have hlb : b < B0 := by rw [hB0]; have := hgr.size; omega
            rw [← hB0] at ho
            clear hMr hgr hb
            go_wp2
            go_loopw [9, 31] (fun n' i wi => ∃ (j : Nat) (K' : List ByteArray), i = .int .i64 j ∧ j ≤ ts.length ∧ n' = .int .i64 (mxs (lg kind) (Pf ++ ts.take j)) ∧ MapL wi b kind n K' ∧ (∀ t ∈ K', t ∈ K ∨ mu kind t < mu kind s) ∧ w.grownBy wi (some b) ∧ Own wi B0 9 (.slice A ts.length c) (scells ts)) (fun _ i _ => ts.length - (intOf i).toNat)
            case atStart => exact ⟨0, K', rfl, by omega, by simp, hM1, HKR.out, hg1, ho⟩
            case round =>
              obtain ⟨j, K2, rfl, hj, rfl, hMj, hKj, hgj, hoj⟩ := hrel
              clear hM1 hg1 ho
              have HPJ := HP.out j hj
              have hLn := HLn.out
              by_cases hlt2 : j < ts.length
              · obtain ⟨b2, o2, rfl, hbB, hc⟩ := hoj.rd.at (j := j) (by rw [scells_len]; exact hlt2)
                have hcj := hc j _ (scells_at ts j ts[j] (List.getElem?_eq_getElem hlt2))
                obtain ⟨k1, k2⟩ := HTJ.out j hlt2
                have HJ := Lib.hid (HMX.out j hlt2)
                have hPn := HP.out (j + 1) hlt2
                rw [HJ.out] at hPn
                have HCALL := HI.out ts[j] wr b K2 k1 (by omega) hMj
                generalize ts[j] = t at *
                have HKJ := Lib.hid hKj; have HOJ := Lib.hid hoj; have HGJ := Lib.hid hgj; have HK2 := Lib.hid k2; have HKC := Lib.hid HCALL
                clear hc hKj hoj hgj k1 k2 HCALL hMj hbB
                obtain ⟨n0, hn0⟩ : ∃ n0, n0 = mxs (lg kind) (Pf ++ ts.take j) := ⟨_, rfl⟩
                rw [← hn0] at HJ hPn HPJ ⊢
                clear hn0
                go_wp2_with fail
                ((with_reducible refine (HKC.out).mono ?_); rintro e w2 ⟨rfl, ⟨K3, hM3, hK3⟩, hg3⟩)
                have HM3 := Lib.hid hM3; have HK3 := Lib.hid hK3
                clear hM3 hK3
                go_wp2
                go_roundw
                case rel =>
                  refine ⟨j + 1, K3, by go_num, by omega, ?_, HM3.out, ?_, HGJ.out.trans hg3, HOJ.out.grown hg3 (.inr fun e => ?_)⟩
                  · rw [HJ.out]; go_num
                  · intro x hx
                    rcases HK3.out x hx with h | h
                    · exact HKJ.out x h
                    · exact .inr (by have := HK2.out; omega)
                  · have := (HOJ.out.lt b e).1; omega
                case measure => simp [intOf]; omega
              · obtain rfl : j = ts.length := by omega
                go_wp2
                go_roundw
                case rel => first | exact ⟨0 + 1, K2, by go_num, by omega, by rw [HFIN.out], hMj, hKj, hgj⟩ | exact ⟨1 + 1, K2, by go_num, by omega, by rw [HFIN.out], hMj, hKj, hgj⟩
                case measure => simp [intOf]
        · obtain rfl : r = 2 := by omega
          have hL := lg_eq h1 h2 HS.out
          have e2 : mxs (lg kind) (sides2 kind s 2) = lg kind s := hL.symm
          rw [e2]
          clear hL e2
          have hnin : s ∉ K' := fun h => by
            rcases hKr s h with h | h
            · exact hin h
            · omega
          have h49 := lg_le49 h1 h2 HS.out hn7
          obtain ⟨D2, ho2, hd2, hK2, hh2, ha2⟩ := hMr
          have hfew := few hn7 K' hd2 hK2
          have hnl : K'.length < maxLen := by unfold maxLen; omega
          have hm2 := ho2.isMap
          have hval : plainElem (H := Unit) Tryd.prog 3 (.int .i64 (lg kind s)) = some (.lit (.int .i64 (lg kind s)), []) := plainElem_int Tryd.underlying3 (by simp [Lit.wf, IntKind.min, IntKind.max, IntKind.signed, IntKind.bits]; omega)
          go_wp2_with (first | (at_mapUpdate; refine wpList_mapUpdate_own _ rfl _ _ _ 123 rfl 9 3 keyedS Tryd.underlying123 _ b _ D2 rfl ho2 hnl _ _ _ rfl rfl hkey _ [] hval ?_; intro w3 ho3 hg3) | go_in)
          go_ret
          have hgf := hgr.trans hg3
          exact ⟨by rfl, ⟨s :: K', MapL.put s HS.out hnin hm2 hd2 hK2 hh2 ha2 ho3, fun t ht => by
            rcases List.mem_cons.1 ht with rfl | ht
            · exact .inr (Nat.le_refl _)
            · rcases hKr t ht with h | h
              · exact .inl h
              · exact .inr (by omega)⟩, hgf⟩

theorem MapL.new (w : World) (kind : Int) (n : Nat) : MapL (w.alloc (.map #[] 0)) w.heap.size kind n [] :=
  ⟨.map [], World.ownsMap_made w _ _ _, List.nodup_nil, fun t ht => absurd ht (by simp), fun t => by simp [Maps.has], fun t ht => absurd ht (by simp)⟩
/-- Whether a strip is valued, and how long it can be played. -/
def lgB (kind : Int) (s : ByteArray) : Bool := stripB kind s && decide (s.size ≤ 7)
def lgV (kind : Int) (s : ByteArray) : Nat := if lgB kind s = true then lg kind s else 0
theorem lgB_of {kind : Int} {s : ByteArray} (h : lgB kind s = true) : stripB kind s = true ∧ s.size ≤ 7 := by simpa [lgB] using h

set_option maxHeartbeats 800000 in
theorem longestI_any (kind : Int) (s : ByteArray) (w : World) (hs : s.size ≤ maxLen) :
    Calls Tryd.prog 46 #[.int .i64 kind, .string s] w fun e w' => e = .returned (.tuple #[.int .i64 (lgV kind s), .bool (lgB kind s)]) ∧ Below w.heap.size w w' := by
  cases hg : stripB kind s
  · have HB : Hid (lgB kind s = false) := by show _ = _; rw [lgB, hg]; rfl
    have HV : Hid (lgV kind s = 0) := by show _ = _; rw [lgV, HB.out]; rfl
    go_enter Tryd.func46, Tryd.ntmps46
    go_wp2_with (go_at_call 92; (with_reducible refine (goodStripI_any kind s _ hs).mono ?_); rintro e w1 ⟨rfl, hb1⟩; rw [hg])
    go_ret2
    exact ⟨by rw [HB.out, HV.out]; rfl, hb1⟩
  · obtain ⟨h1, h2, h3, h4⟩ := stripB_of hg
    by_cases h7 : s.size ≤ 7
    · have HB : Hid (lgB kind s = true) := by show _ = _; rw [lgB, hg]; simpa using h7
      have HV : Hid (lgV kind s = lg kind s) := by show _ = _; rw [lgV, if_pos HB.out]
      have h7I : ¬ (7 : Int) < (s.size : Int) := by omega
      have HIN := Lib.hid (in3_of h4)
      have hmk := fun w : World => (run_makeMap (P := Tryd.prog) 123 w)
      clear h4
      go_enter Tryd.func46, Tryd.ntmps46
      go_wp2_with (go_at_call 92; (with_reducible refine (goodStripI_any kind s _ hs).mono ?_); rintro e w1 ⟨rfl, hb1⟩; rw [hg])
      have hM := MapL.new w1 kind s.size
      have hbA : Below w1.heap.size w1 (w1.alloc (.map #[] 0)) := (Below.refl _ _).alloc (Nat.le_refl _) _
      refine (longI_any kind h1 h2 s.size h7 _ s _ _ [] HIN.out (Nat.lt_succ_self _) hM).mono ?_; rintro e w2 ⟨rfl, -, hg2⟩
      have hb2 : Below w.heap.size w w2 := (gtr hb1 hbA).grown hg2 (by have := hb1.size; simp; omega) fun g hg => by injection hg with hg; have := hb1.size; omega
      go_wp2
      go_ret2
      exact ⟨by rw [HB.out, HV.out]; rfl, hb2⟩
    · have HB : Hid (lgB kind s = false) := by show _ = _; rw [lgB, hg]; simpa using h7
      have HV : Hid (lgV kind s = 0) := by show _ = _; rw [lgV, HB.out]; rfl
      have h7I : (7 : Int) < (s.size : Int) := by omega
      go_enter Tryd.func46, Tryd.ntmps46
      go_wp2_with (go_at_call 92; (with_reducible refine (goodStripI_any kind s _ hs).mono ?_); rintro e w1 ⟨rfl, hb1⟩; rw [hg])
      go_ret2
      exact ⟨by rw [HB.out, HV.out]; rfl, hb1⟩
end Go.Proofs.YtadljglcbieifaaDoor
