/- The parts of a board: the reference's walk. Conditions: none. -/
import Derived.Test.YtadljglcbieifaaDoorPt1
import Derived.Test.YtadljglcbieifaaDoorBits
import Derived.Deep.QuietTactic
import Derived.BigQuiet
namespace Go.Proofs.YtadljglcbieifaaDoor
open Go.RowKit
set_option linter.unusedVariables false

/-- The cells before a place are cleared. -/
def ClrTo (G P G' : List (List Bool)) (r q : Nat) : Prop := ∀ a b : Nat, getM G' a b = if a < r ∨ (a = r ∧ b < q) then (getM G a b && !getM P a b) else getM G a b
theorem clr_start (G P : List (List Bool)) : ClrTo G P G 0 0 := fun a b => by rw [if_neg (by omega)]
theorem clr_row {G P G' : List (List Bool)} {R C r : Nat} (hG : Grid R C G) (h : ClrTo G P G' r C) : ClrTo G P G' (r + 1) 0 := fun a b => by
  rw [h a b]
  by_cases h1 : a < r + 1 ∨ (a = r + 1 ∧ b < 0)
  · rw [if_pos h1]
    by_cases h2 : a < r ∨ (a = r ∧ b < C)
    · rw [if_pos h2]
    · rw [if_neg h2, get_out hG a b (by omega)]; rfl
  · rw [if_neg h1, if_neg (by omega)]
theorem clr_cell {G P G' : List (List Bool)} {R C r q : Nat} (hG' : Grid R C G') (hr : r < R) (hq : q < C) (h : ClrTo G P G' r q) : ClrTo G P (setV G' r q (getM G r q && !getM P r q)) r (q + 1) := fun a b => by
  rw [get_setV hG' r q hr hq]
  by_cases e : a = r ∧ b = q
  · obtain ⟨rfl, rfl⟩ := e
    rw [if_pos ⟨rfl, rfl⟩, if_pos (by omega)]
  · rw [if_neg e, h a b]
    by_cases h2 : a < r ∨ (a = r ∧ b < q)
    · rw [if_pos h2, if_pos (by omega)]
    · rw [if_neg h2, if_neg (by omega)]
theorem clr_at {G P G' : List (List Bool)} {r q : Nat} (h : ClrTo G P G' r q) : getM G' r q = getM G r q := by rw [h r q, if_neg (by omega)]

theorem GrC.rowAt {w : World} {lo R C gv cv : Nat} {cs : List Value} {M : List (List Bool)} (h : GrC w lo (.slice (some ⟨gv, 0, none⟩) R cv) cs M) (hM : Grid R C M) (hC : 0 < C) {i : Nat} (hi : i < R) :
    ∃ g c, C ≤ c ∧ c ≤ 9223372036854775807 ∧ w.cell? ⟨gv, i, none⟩ = some (.slice (some ⟨g, 0, none⟩) C c) ∧ cs[i]? = some (.slice (some ⟨g, 0, none⟩) C c) ∧ ∀ k, k < C → w.cell? ⟨g, k, none⟩ = some (.bool (getM M i k)) ∧ w.frozen? ⟨g, k, none⟩ = false := by
  obtain ⟨g1, c1, g, c, hv, -, -, h3, h4, h5, -, -, h8⟩ := h.at hM hi hC
  injection hv with hv1 hv2 hv3
  injection hv1 with hv1
  injection hv1 with hv1
  subst hv1
  refine ⟨g, c, h3, h4, h5, h8, fun k hk => ?_⟩
  obtain ⟨g1, c1, g', c', hv, -, -, -, -, -, k6, k7, k8⟩ := h.at hM hi hk
  rw [h8] at k8
  injection k8 with k8
  injection k8 with k8
  injection k8 with k8
  injection k8 with k8
  subst k8
  exact ⟨k6, k7⟩

set_option maxRecDepth 100000 in
set_option maxHeartbeats 6400000 in
theorem partsS_any (A : Option Addr) (c : Nat) (ss : List ByteArray) (w : World) (B : Nat) (hB : B ≤ w.heap.size) (h : Rd w B A c (scells ss)) (hb : boardP ss) (hsz : Hid (Short ss)) :
    Calls Tryd.prog 96 #[.agg #[.slice A ss.length c]] w (RetBS w (partsB ss)) := by
  have h1 := h.len
  have h2 := h.max
  rw [scells_len] at h1
  have hn := hb.1
  have hw := hb.2.1
  have HRD : Hid (∀ W, Below w.heap.size w W → Rd W B A c (scells ss)) := fun W hh => h.below hh hB
  have HBP := Lib.hid hb
  have HFEW : Hid (∀ i k, i < ss.length → k ≤ (gs ss 0).size → OkP ss 64 (scanPC ss i (scanPR ss i) k)) := fun i k hi hk => by
    have h1 := okP_scanC (okP_scanR ss i) i k
    refine ⟨h1.grid, h1.closed, ?_, h1.sub⟩
    have h2 := h1.few
    have h3 : i * (gs ss 0).size ≤ 7 * 8 := Nat.mul_le_mul (by omega) (by omega)
    omega
  clear h hb
  go_enter Tryd.func96, Tryd.ntmps96
  go_wp2_with fail
  obtain ⟨W, hW⟩ : ∃ W, W = (w.alloc (.cells #[.slice A ss.length c] 60)).alloc (.cells #[] 60) := ⟨_, rfl⟩
  have hAW : Below w.heap.size w W := by rw [hW]; exact bel2 w _ _
  have hzW : W.heap.size = w.heap.size + 2 := by rw [hW]; simp
  have hoW : Own W (w.heap.size + 1) 60 (.slice (some ⟨w.heap.size + 1, 0, none⟩) 0 0) [] := by
    have := Own.empty (w.alloc (.cells #[.slice A ss.length c] 60)) 60 60 (w.heap.size + 1) (by simp)
    rw [hW]
    simpa using this
  rw [← hW]
  clear hW
  ((with_reducible refine (cellsF_any _ _ _ W B (by omega) (HRD.out W hAW) hsz (by omega)).mono ?_); rintro e w1 ⟨Ac, cc, rfl, hfr, hb1⟩)
  obtain ⟨cs, hgr⟩ := hfr.gr
  have hbA := gtr hAW (hb1)
  have hoA := hoW.below hb1
  have HCS : Hid (∀ (i : Nat) (u : Value) (k : Nat), cs[i]? = some u → u.ownBlock = some k → W.heap.size ≤ k ∧ k < w1.heap.size) := fun i u k hi hu => hgr.row hi hu
  have hz1 := hb1.size
  have HOU : Hid (OutS w1 (w.heap.size + 1) W.heap.size w1.heap.size (.slice (some ⟨w.heap.size + 1, 0, none⟩) 0 0) []) := ⟨[], hoA, ⟨rfl, fun i hi => absurd hi (by simp), fun i j u u' g hi => by simp at hi⟩, fun i u g hi => by simp at hi, fun g hg => .inl (by have hg' : w.heap.size + 1 = g := (by injection hg); omega)⟩
  have HLF := Lib.hid (left_first HBP.out)
  obtain ⟨gv, cv0, _, _, hgv, hlv1, hlv2, -⟩ := hgr.at HLF.out.1 (i := 0) (k := 0) (by omega) (by omega)
  injection hgv with hgv1 hgv2 hgv3
  subst hgv1
  subst hgv3
  clear hgv2
  have HGV : Hid (gv < w1.heap.size) := (hgr.1.lt gv rfl).2
  have HGR := Lib.hid hgr; have HBA := Lib.hid hbA
  obtain ⟨S0, hS0⟩ : ∃ S0, S0 = w1.heap.size := ⟨_, rfl⟩
  rw [← hS0] at HCS HOU HGV
  have hS1 : S0 ≤ w1.heap.size := by omega
  have hLS : W.heap.size ≤ S0 := by omega
  clear hS0 hfr hgr hbA hoA hoW hb1
  go_wp2
  go_loopw [3, 5] (fun v i wr => ∃ (k : Nat) (A' : Option Addr) (c' : Nat) (G : List (List Bool)), i = .int .i64 k ∧ k ≤ ss.length ∧ v = .slice A' (scanPR ss k).2.length c' ∧ OutS wr (w.heap.size + 1) W.heap.size S0 (.slice A' (scanPR ss k).2.length c') (scanPR ss k).2 ∧ GrC wr W.heap.size (.slice (some ⟨gv, 0, none⟩) ss.length cc) cs G ∧ LeftOf ss (scanPR ss k).1 G ∧ Below w.heap.size w wr ∧ S0 ≤ wr.heap.size) (fun _ i _ => ss.length - (intOf i).toNat)
  case atStart => exact ⟨0, _, _, _, rfl, by omega, rfl, HOU.out, HGR.out, HLF.out, HBA.out, hS1⟩
  case round =>
    clear HOU HGR HBA hS1
    obtain ⟨k, A', c', G, rfl, hk, rfl, hou, hgr, hlf, hbw, hzr⟩ := hrel
    by_cases hlt : k < ss.length
    · obtain ⟨st, hst⟩ : ∃ st, st = scanPR ss k := ⟨_, rfl⟩
      have HOK : Hid (∀ j, j ≤ (gs ss 0).size → OkP ss 64 (scanPC ss k st j)) := fun j hj => by rw [hst]; exact HFEW.out k j hlt hj
      have HNEXT : Hid (scanPR ss (k + 1) = scanPC ss k st (gs ss 0).size) := by show _ = _; rw [hst]; rfl
      rw [← hst] at hou hlf ⊢
      clear hst
      go_wp2
      go_loopw [3, 6] (fun v i wv => ∃ (j : Nat) (A2 : Option Addr) (c2 : Nat) (G : List (List Bool)), i = .int .i64 j ∧ j ≤ (gs ss 0).size ∧ v = .slice A2 (scanPC ss k st j).2.length c2 ∧ OutS wv (w.heap.size + 1) W.heap.size S0 (.slice A2 (scanPC ss k st j).2.length c2) (scanPC ss k st j).2 ∧ GrC wv W.heap.size (.slice (some ⟨gv, 0, none⟩) ss.length cc) cs G ∧ LeftOf ss (scanPC ss k st j).1 G ∧ Below w.heap.size w wv ∧ S0 ≤ wv.heap.size) (fun _ i _ => (gs ss 0).size - (intOf i).toNat)
      case atStart => exact ⟨0, A', c', G, rfl, by omega, rfl, hou, hgr, hlf, hbw, hzr⟩
      case round =>
        clear hou hgr hlf hbw hzr
        obtain ⟨j, A2, c2, G, rfl, hj, rfl, hou, hgr, hlf, hbw, hzv⟩ := hrel
        obtain ⟨gv', cv', g0, c0, hv, hv1, hv2, hc1, hc2, p1, -, -, p4⟩ := hgr.at hlf.1 hlt (k := 0) (by omega)
        injection hv with hv3 hv4 hv5
        injection hv3 with hv3
        injection hv3 with hv3
        subst hv3 hv5
        clear hv4
        by_cases hjC : j < (gs ss 0).size
        · have HOKJ := Lib.hid (HOK.out j (by omega))
          have HST : Hid (scanPC ss k st (j + 1) = stepP ss (scanPC ss k st j) k j) := rfl
          obtain ⟨st2, hst2⟩ : ∃ st2, st2 = scanPC ss k st j := ⟨_, rfl⟩
          rw [← hst2] at HOKJ HST hou hlf ⊢
          clear hst2
          obtain ⟨gv', cv', g, c3, hv, -, -, -, -, p5, p6, -, -⟩ := hgr.at hlf.1 hlt hjC
          injection hv with hv3 hv4 hv5
          injection hv3 with hv3
          injection hv3 with hv3
          subst hv3 hv5
          clear hv4
          have hgeq : (some (Value.slice (some ⟨g0, 0, none⟩) (gs ss 0).size c0)) = some (.slice (some ⟨g, 0, none⟩) (gs ss 0).size c3) := p1.symm.trans p5
          injection hgeq with hgeq
          injection hgeq with hq1 hq2 hq3
          injection hq1 with hq1
          injection hq1 with hq1
          subst hq1 hq3
          clear p5 hq2
          have HL := Lib.hid hlf; have HO := Lib.hid hou; have HG := Lib.hid hgr; have HB := Lib.hid hbw
          have hbs := hbw.size
          have hgm := hlf.2 k j
          clear hlf hou hgr hbw
          cases hx : getM G k j
          · rw [hx] at p6 hgm
            have HS : Hid (stepP ss st2 k j = st2) := by
              show _ = _
              unfold stepP
              rw [if_neg]
              intro hh
              rw [hh.1, hh.2] at hgm
              cases hgm
            clear hgm
            go_wp2
            go_roundw
            case rel => exact ⟨j + 1, A2, c2, G, by go_num, by omega, by rw [HST.out, HS.out], by rw [HST.out, HS.out]; exact HO.out, HG.out, by rw [HST.out, HS.out]; exact HL.out, HB.out, hzv⟩
            case measure => simp [intOf]; omega
          · rw [hx] at p6 hgm
            have hfm : frI ss k j = true ∧ getM st2.1 k j = false := by
              have := hgm.symm
              rw [Bool.and_eq_true, Bool.not_eq_true'] at this
              exact this
            have HS : Hid (stepP ss st2 k j = (flood (frI ss) st2.1 k j, st2.2 ++ [trimL (onlyL (flood (frI ss) (noM ss.length (gs ss 0).size) k j))])) := by show _ = _; unfold stepP; rw [if_pos hfm]
            have HFM := Lib.hid hfm
            clear hgm hfm
            go_wp2
            obtain ⟨w3, hw3⟩ : ∃ w3 : World, w3 = wr := ⟨_, rfl⟩
            rw [← hw3] at HO HG HB hbs hzv ⊢
            clear hw3 p1 p4 p6
            have HCR : Hid (∀ wx, Below w3.heap.size w3 wx → ∀ r, r < ss.length → ∃ g c, (gs ss 0).size ≤ c ∧ c ≤ 9223372036854775807 ∧ wx.cell? ⟨gv, r, none⟩ = some (.slice (some ⟨g, 0, none⟩) (gs ss 0).size c)) := fun wx hx r hr => by
              obtain ⟨g, c, a1, a2, a3, -⟩ := (HG.out.below hx).rowAt HL.out.1 (by omega) hr
              exact ⟨g, c, a1, a2, a3⟩
            have hp0 : FrB (w3.alloc (.cells #[] 156)) w3.heap.size (.slice (some ⟨w3.heap.size, 0, none⟩) 0 0) (noM 0 (gs ss 0).size) := FrB.nil (Own.empty w3 156 _ _ (Nat.le_refl _))
            go_loopw [7, 8] (fun v i wp => ∃ (r : Nat) (A4 : Option Addr) (c4 : Nat), i = .int .i64 r ∧ r ≤ ss.length ∧ v = .slice A4 r c4 ∧ FrB wp w3.heap.size (.slice A4 r c4) (noM r (gs ss 0).size) ∧ Below w3.heap.size w3 wp) (fun _ i _ => ss.length - (intOf i).toNat)
            case atStart => exact ⟨0, _, _, rfl, by omega, rfl, hp0, bel1 _ _⟩
            case round =>
              clear hp0
              obtain ⟨r, A4, c4, rfl, hr, rfl, ho, hb4⟩ := hrel
              by_cases hrl : r < ss.length
              · obtain ⟨g4, d4, y1, y2, y3⟩ := HCR.out _ hb4 r hrl
                have hzr := hb4.size
                have HB4 := Lib.hid hb4
                clear hb4
                obtain ⟨cs4, k1, k2, k3⟩ := ho
                have HK : Hid (cs4.length = r) := by show _ = _; rw [k2.1, List.length_map, noM_len]
                have HK3 := Lib.hid (And.intro k1 (And.intro k2 k3))
                have HK1 := Lib.hid k1
                clear k1 k2 k3
                obtain ⟨wo, hwo⟩ : ∃ wo : World, wo = wr := ⟨_, rfl⟩
                rw [← hwo] at HB4 HK1 HK3 hzr y3 ⊢
                clear hwo
                go_wp2_with (first
                  | (at_make
                     refine make_marks rfl _ _ rfl (gs ss 0).size rfl rfl (by omega) ?_
                     intro w5 ho5 hb5
                     have HO5 := Lib.hid ho5; have HB5 := Lib.hid hb5
                     have hz5 := hb5.size
                     clear ho5 hb5)
                  | (at_builtin
                     refine wpList_append_at rfl _ _ 154 156 (.slice none 0 0) 24 rfl Tryd.underlying154 infoBoolS rfl (by omega) w3.heap.size _ cs4 rfl ((HK1.out.below HB5.out).below (bel1 _ _)) _ _ _ _ [.slice (some ⟨wo.heap.size, 0, none⟩) (gs ss 0).size (gs ss 0).size] rfl rfl (Rd.of_blk (Blk.new _ _ _) (Nat.lt_succ_self _)) (fun u hu => by simp at hu; subst hu; rfl) (by rw [HK.out]; simp; omega) (by simp; omega) ?_
                     intro A6 c6 w6 ho6 hb6 hg6 hp6
                     rw [HK.out] at ho6 hp6 ⊢
                     have HP : Hid (FrB w6 w3.heap.size (.slice A6 (r + 1) c6) (noM (r + 1) (gs ss 0).size)) := by
                       show FrR _ _ _ _ _ _
                       rw [noM_succ, List.map_append]
                       have hown : Own w5 wo.heap.size 4 (.slice (some ⟨wo.heap.size, 0, none⟩) (gs ss 0).size (gs ss 0).size) (bools (List.replicate (gs ss 0).size false)) := HO5.out
                       exact FrR.push (w := wo) (w1 := w5) (w2 := w5.alloc (.cells #[.slice (some ⟨wo.heap.size, 0, none⟩) (gs ss 0).size (gs ss 0).size] 156)) HK3.out hzr HB5.out hown (bel1 _ _) ho6 hg6 hp6
                     have HB6 : Hid (Below w3.heap.size w3 w6) := (((HB4.out.trans (HB5.out.mono hzr)).alloc (by omega) _).trans hb6)
                     clear ho6 hb6 hg6 hp6)
                  | fail)
                go_wp2
                go_roundw
                case rel => exact ⟨r + 1, A6, c6, by go_num, by omega, rfl, HP.out, HB6.out⟩
                case measure => simp [intOf]; omega
              · obtain rfl : r = ss.length := by omega
                obtain ⟨csP, gP⟩ := ho.gr
                have HGP := Lib.hid gP; have HB4 := Lib.hid hb4
                have hz4 := hb4.size
                clear ho gP hb4
                obtain ⟨w4, hw4⟩ : ∃ w4 : World, w4 = wr := ⟨_, rfl⟩
                rw [← hw4] at HGP HB4 hz4 ⊢
                clear hw4
                have HGR : Hid (Calls Tryd.prog 146 #[.slice (some ⟨gv, 0, none⟩) ss.length cc, .slice A4 ss.length c4, .int .i64 k, .int .i64 j] w4 fun e w' => e = .returned (.tuple #[]) ∧ GrC w' w3.heap.size (.slice A4 ss.length c4) csP (flood (frI ss) (noM ss.length (gs ss 0).size) k j) ∧ Rows w4 w' csP) := by
                  have := growS_any (some ⟨gv, 0, none⟩) cc ss.length (gs ss 0).size G HL.out.1 hn hw w3.heap.size w3.heap.size (Nat.le_refl _) _ _ k j w4 _ csP (Nat.lt_succ_self _) (noM_grid _ _) HGP.out hz4 ((HG.out.rdB).below HB4.out (Nat.le_refl _)) (by omega) (by omega) (by omega) (by omega)
                  rw [left_comp hn.1 HOKJ.out.grid HOKJ.out.closed HL.out k j HFM.out.2] at this
                  exact this
                go_wp2_with fail
                ((with_reducible refine HGR.out.mono ?_); rintro e w5 ⟨rfl, g5, r5⟩)
                have hb5 := Rows.below HB4.out r5 hz4 fun i u kk hi hu => (HGP.out.row hi hu).1
                have HB5 := Lib.hid hb5
                have hz5 := hb5.size
                have HG5 := Lib.hid (HG.out.below hb5)
                have HP5 := Lib.hid g5
                have HGF : Hid (Grid ss.length (gs ss 0).size (flood (frI ss) (noM ss.length (gs ss 0).size) k j)) := (flood_grid (inR_frI (ss := ss)) k j (noM_grid _ _)).1
                have HNX : Hid (∀ G', Grid ss.length (gs ss 0).size G' → ClrTo G (flood (frI ss) (noM ss.length (gs ss 0).size) k j) G' ss.length 0 → LeftOf ss (flood (frI ss) st2.1 k j) G') := fun G' hG' hcl =>
                  left_next hn.1 HOKJ.out.grid HOKJ.out.closed HL.out k j HFM.out.2 hG' fun a b => by
                    rw [hcl a b]
                    split
                    · rfl
                    · rw [get_out HL.out.1 a b (by omega)]; rfl
                have HSF := Lib.hid HOKJ.out.few
                obtain ⟨gp, cp0, _, _, hpv, hpl1, hpl2, -⟩ := HP5.out.at HGF.out hlt hjC
                injection hpv with hpv1 hpv2 hpv3
                subst hpv1
                subst hpv3
                clear hpv2
                generalize flood (frI ss) (noM ss.length (gs ss 0).size) k j = P at *
                generalize flood (frI ss) st2.1 k j = N at *
                clear g5 r5 hb5 HGR
                go_wp2
                go_loopw [9] (fun i wc => ∃ (r : Nat) (G' : List (List Bool)), i = .int .i64 r ∧ r ≤ ss.length ∧ GrC wc W.heap.size (.slice (some ⟨gv, 0, none⟩) ss.length cc) cs G' ∧ Grid ss.length (gs ss 0).size G' ∧ ClrTo G P G' r 0 ∧ Rows w5 wc cs) (fun i _ => ss.length - (intOf i).toNat)
                case atStart => exact ⟨0, G, rfl, by omega, HG5.out, HL.out.1, clr_start _ _, Rows.refl _ _⟩
                case round =>
                  obtain ⟨r, G', rfl, hr, hg', hgg, hcl, hrw⟩ := hrel
                  by_cases hrl : r < ss.length
                  · have HRW0 := Lib.hid hrw
                    go_wp2
                    go_loopw [10] (fun i wc => ∃ (q : Nat) (G' : List (List Bool)), i = .int .i64 q ∧ q ≤ (gs ss 0).size ∧ GrC wc W.heap.size (.slice (some ⟨gv, 0, none⟩) ss.length cc) cs G' ∧ Grid ss.length (gs ss 0).size G' ∧ ClrTo G P G' r q ∧ Rows w5 wc cs) (fun i _ => (gs ss 0).size - (intOf i).toNat)
                    case atStart => exact ⟨0, G', rfl, by omega, hg', hgg, hcl, hrw⟩
                    case round =>
                      clear hg' hgg hcl hrw
                      obtain ⟨q, G', rfl, hq, hg', hgg, hcl, hrw⟩ := hrel
                      obtain ⟨gr, cgr, a1, a2, a3, a4, a5⟩ := hg'.rowAt hgg (by omega) hrl
                      by_cases hql : q < (gs ss 0).size
                      · have hpp := HP5.out.other hrw fun i u kk hi hu => by have := (HCS.out i u kk hi hu).2; omega
                        obtain ⟨pr, cpr, b1, b2, b3, b4, b5⟩ := hpp.rowAt HGF.out (by omega) hrl
                        obtain ⟨a6, a7⟩ := a5 q hql
                        obtain ⟨b6, -⟩ := b5 q hql
                        have HC := Lib.hid (clr_cell hgg hrl hql hcl)
                        have HX := Lib.hid (clr_at hcl)
                        have HGD := Lib.hid (grid_setV hgg r q hrl (getM G r q && !getM P r q))
                        have HPUT : Hid (∀ wx, Below wr.heap.size wr wx → GrC (wx.setCell ⟨gr, q, none⟩ (.bool (getM G r q && !getM P r q))) W.heap.size (.slice (some ⟨gv, 0, none⟩) ss.length cc) cs (setV G' r q (getM G r q && !getM P r q)) ∧ Rows w5 (wx.setCell ⟨gr, q, none⟩ (.bool (getM G r q && !getM P r q))) cs) := fun wx hx => by
                          obtain ⟨u1, u2⟩ := (hg'.below hx).put hgg hrl hql a4 (getM G r q && !getM P r q)
                          exact ⟨u1, (hrw.trans (Rows.of_below hx)).trans u2⟩
                        rw [HX.out] at a6
                        clear a5 b5 b4 a4 hg' hgg hcl hrw hpp
                        cases hx : getM G r q
                        · rw [hx] at a6 HPUT HC HGD
                          go_wp2
                          refine wp_region_tail 23 (by kernel_rfl) (by kernel_rfl) ?_
                          simp only [List.take_succ_cons, List.take_zero, List.drop_succ_cons, List.drop_zero]
                          repeat (go_big_quiet_step (fail))
                          refine wpQuiet_nil ?_
                          go_wp2
                          go_roundw
                          case rel =>
                            obtain ⟨u1, u2⟩ := HPUT.out _ (gdrew (a := wr))
                            exact ⟨q + 1, _, by go_num, by omega, u1, HGD.out, HC.out, u2⟩
                          case measure => simp [intOf]; omega
                        · rw [hx] at a6 HPUT HC HGD
                          cases hy : getM P r q
                          · rw [hy] at b6 HPUT HC HGD
                            go_wp2
                            refine wp_region_tail 23 (by kernel_rfl) (by kernel_rfl) ?_
                            simp only [List.take_succ_cons, List.take_zero, List.drop_succ_cons, List.drop_zero]
                            repeat (go_big_quiet_step (fail))
                            refine wpQuiet_nil ?_
                            go_wp2
                            go_roundw
                            case rel =>
                              obtain ⟨u1, u2⟩ := HPUT.out _ (gdrew (a := wr))
                              exact ⟨q + 1, _, by go_num, by omega, u1, HGD.out, HC.out, u2⟩
                            case measure => simp [intOf]; omega
                          · rw [hy] at b6 HPUT HC HGD
                            go_wp2
                            refine wp_region_tail 23 (by kernel_rfl) (by kernel_rfl) ?_
                            simp only [List.take_succ_cons, List.take_zero, List.drop_succ_cons, List.drop_zero]
                            repeat (go_big_quiet_step (fail))
                            refine wpQuiet_nil ?_
                            go_wp2
                            go_roundw
                            case rel =>
                              obtain ⟨u1, u2⟩ := HPUT.out _ (gdrew (a := wr))
                              exact ⟨q + 1, _, by go_num, by omega, u1, HGD.out, HC.out, u2⟩
                            case measure => simp [intOf]; omega
                      · obtain rfl : q = (gs ss 0).size := by omega
                        have H1 := Lib.hid hg'; have H2 := Lib.hid hgg; have H3 := Lib.hid hrw; have H4 := Lib.hid (clr_row HL.out.1 hcl)
                        clear a4 a5 hg' hgg hcl hrw
                        go_wp2
                        go_roundw
                        case rel => exact ⟨r + 1, G', by go_num, by omega, H1.out, H2.out, H4.out, H3.out⟩
                        case measure => simp [intOf]; omega
                  · obtain rfl : r = ss.length := by omega
                    have HNEW := Lib.hid (HNX.out G' hgg hcl)
                    have HO6 := Lib.hid ((HO.out.below HB5.out).rows hrw HCS.out)
                    have hz6 := hrw.size
                    have HB6 : Hid (Below w.heap.size w wr) := Rows.below (HB.out.trans (HB5.out.mono hbs)) hrw (by omega) fun i u kk hi hu => by have := (HCS.out i u kk hi hu).1; omega
                    have HP6 := Lib.hid (HP5.out.other hrw fun i u kk hi hu => by have := (HCS.out i u kk hi hu).2; omega)
                    have HG6 := Lib.hid hg'
                    clear hg' hgg hcl hrw
                    obtain ⟨w6, hw6⟩ : ∃ w6 : World, w6 = wr := ⟨_, rfl⟩
                    rw [← hw6] at HO6 HB6 HP6 HG6 hz6 ⊢
                    clear hw6
                    have HC7 : Hid (Calls Tryd.prog 148 #[.slice (some ⟨gp, 0, none⟩) ss.length c4] w6 (RetBd w6 (onlyL P))) := by
                      have := board_any (some ⟨gp, 0, none⟩) c4 P w6 w6.heap.size (Nat.le_refl _) HP6.out.rdB (by rw [HGF.out.1]; omega) (fun i hi => by rw [HGF.out.1] at hi; have : (gb P i).length = (gs ss 0).size := HGF.out.2 i hi; omega)
                      rw [HGF.out.1] at this
                      exact this
                    go_wp2_with fail
                    ((with_reducible refine HC7.out.mono ?_); rintro e w7 ⟨A7, c7, rfl, ho7, hb7⟩)
                    have HO7 := Lib.hid ho7; have HB7 := Lib.hid hb7
                    have hz7 := hb7.size
                    clear ho7 hb7 HC7
                    have HBO := Lib.hid (boardP_only HGF.out hn hw)
                    have HC8 : Hid (Calls Tryd.prog 147 #[.agg #[.slice A7 (onlyL P).length c7]] w7 (RetT w7 (trimL (onlyL P)))) :=
                      trimS_any A7 c7 (onlyL P) w7 w7.heap.size (Nat.le_refl _) HO7.out.rd HBO.out (Lib.hid fun i hi => by have := (HBO.out.2.2 i hi).1; have := HBO.out.2.1.2; omega)
                    have HT8 : Hid ((trimL (onlyL P)).length ≤ 8) := trimP_le HGF.out hn hw
                    go_wp2_with fail
                    ((with_reducible refine HC8.out.mono ?_); rintro e w8 ⟨A8, c8, rfl, ho8, hb8⟩)
                    have HO8 := Lib.hid ho8; have HB8 := Lib.hid hb8
                    have hz8 := hb8.size
                    clear ho8 hb8 HC8
                    generalize trimL (onlyL P) = tb at *
                    obtain ⟨os, x1, x2, x3, x4⟩ := HO6.out.below HB7.out
                    have HX := Lib.hid (And.intro x1 (And.intro x2 x3)); have HX4 := Lib.hid x4
                    have HOL : Hid (os.length = st2.2.length) := by show _ = _; rw [x2.1, List.length_map]
                    have HX1 := Lib.hid x1
                    clear x1 x2 x3 x4
                    have hfew := HSF.out
                    go_wp2_with (first
                      | (at_builtin
                         refine wpList_append_at rfl _ _ 57 60 (.agg #[.slice none 0 0]) 24 rfl Tryd.underlying57 infoBoard rfl (by omega) (w.heap.size + 1) (.slice A2 st2.2.length c2) os rfl ((HX1.out.below HB8.out).below (bel1 _ _)) _ _ _ _ [.slice A8 tb.length c8] rfl rfl (Rd.of_blk (Blk.new _ _ _) (Nat.lt_succ_self _)) (fun u hu => by simp at hu; subst hu; rfl) (by rw [HOL.out]; simp; omega) (by simp; omega) ?_
                         intro A9 c9 w9 ho9 hb9 hg9 hp9
                         rw [HOL.out] at ho9 hp9 ⊢
                         have HP := Lib.hid (push2 (w := w7) (w1 := w8) (w2 := w8.alloc (.cells #[.slice A8 tb.length c8] 60)) HX.out (show S0 ≤ w7.heap.size by omega) HB8.out HO8.out (bel1 _ _) ho9 hg9 hp9)
                         have HG9 := Lib.hid hg9; have HP9 := Lib.hid hp9
                         have hz9 := hb9.size
                         simp at hz9
                         clear ho9 hb9 hg9 hp9)
                      | fail)
                    have hvne : ∀ g, (Value.slice A2 st2.2.length c2).ownBlock = some g → g < W.heap.size ∨ S0 ≤ g := HX4.out
                    have HOUT : Hid (OutS w9 (w.heap.size + 1) W.heap.size S0 (.slice A9 (st2.2.length + 1) c9) (st2.2 ++ [tb])) := by
                      obtain ⟨y1, y2, y3⟩ := HP.out
                      refine ⟨os ++ [.slice A8 tb.length c8], y1, by rw [List.map_append]; exact y2, y3, fun g hg => ?_⟩
                      rcases HP9.out with e | e
                      · exact hvne g (by rw [← e]; exact hg)
                      · have e2 : some (w8.alloc (.cells #[.slice A8 tb.length c8] 60)).heap.size = some g := e.symm.trans hg
                        injection e2 with e2
                        simp at e2
                        exact .inr (by omega)
                    have HG8 := Lib.hid (((HG6.out.below HB7.out).below HB8.out).below (bel1 _ (.cells #[.slice A8 tb.length c8] 60)))
                    have HGN := Lib.hid (HG8.out.grownOut HG9.out hvne (fun g hg => by have hg' : gv = g := (by injection hg); have := HGV.out; omega) (fun i u kk hi hu => (HCS.out i u kk hi hu).2))
                    have HBN : Hid (Below w.heap.size w w9) := by
                      have t1 := (HB6.out.trans (HB7.out.mono (by omega))).trans (HB8.out.mono (by omega))
                      exact (t1.alloc (by omega) _).grown HG9.out (by simp; omega) fun g hg => by have := (HX1.out.lt g hg).1; omega
                    clear hvne
                    go_wp2
                    go_roundw
                    case rel =>
                      refine ⟨j + 1, A9, c9, G', by go_num, by omega, ?_, ?_, HGN.out, ?_, HBN.out, by omega⟩
                      · rw [HST.out, HS.out]; simp
                      · rw [HST.out, HS.out]; simpa using HOUT.out
                      · rw [HST.out, HS.out]; exact HNEW.out
                    case measure => simp [intOf]; omega
        · obtain rfl : j = (gs ss 0).size := by omega
          have HL := Lib.hid hlf; have HO := Lib.hid hou; have HG := Lib.hid hgr; have HB := Lib.hid hbw
          clear hlf hou hgr hbw
          go_wp2
          go_roundw
          case rel => exact ⟨k + 1, A2, c2, G, by go_num, by omega, by rw [HNEXT.out], by rw [HNEXT.out]; exact HO.out, HG.out, by rw [HNEXT.out]; exact HL.out, HB.out, hzv⟩
          case measure => simp [intOf]; omega
    · obtain rfl : k = ss.length := by omega
      have HO := Lib.hid hou; have HB := Lib.hid hbw
      clear hou hgr hlf hbw
      go_wp2
      go_ret
      exact ⟨A', c', rfl, HO.out.frR (by omega) (by omega), HB.out⟩
end Go.Proofs.YtadljglcbieifaaDoor
