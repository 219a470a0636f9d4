/- The parts of a board: the program's walk. Conditions: none. -/
import Derived.Test.YtadljglcbieifaaDoorPt0
namespace Go.Proofs.YtadljglcbieifaaDoor
open Go.RowKit
set_option linter.unusedVariables false

/-- New boards are handed back. -/
def RetBS (w : World) (outs : List (List ByteArray)) (e : Ending) (w' : World) : Prop :=
  ∃ A c, e = .returned (.slice A outs.length c) ∧ FrR w' w.heap.size 60 9 (.slice A outs.length c) (outs.map scells) ∧ Below w.heap.size w w'

set_option maxRecDepth 100000 in
set_option maxHeartbeats 6400000 in
theorem partsI_any (A : Option Addr) (c : Nat) (ss : List ByteArray) (w : World) (B : Nat) (hB : B ≤ w.heap.size) (h : Rd w B A c (scells ss)) (hb : boardP ss) :
    Calls Tryd.prog 99 #[.agg #[.slice A ss.length c]] w (RetBS w (partsB ss)) := by
  have h1 := h.len
  have h2 := h.max
  rw [scells_len] at h1
  have hn := hb.1
  have hw := hb.2.1
  have HRD : Hid (∀ W, Below w.heap.size w W → Rd W B A c (scells ss)) := fun W hh => h.below hh hB
  obtain ⟨b, o, rfl, hbB, hc⟩ := h.at (j := 0) (by rw [scells_len]; omega)
  have HR : Hid (∀ w', Below w.heap.size w w' → ∀ i, i < ss.length → w'.cell? ⟨b, o + i, none⟩ = some (.string (gs ss i))) := fun w' hh i hi => (hh.cell (p := ⟨b, o + i, none⟩) (by show b < _; omega)).trans (hc i _ (gs_at ss i hi))
  have HASC : Hid (∀ i, i < ss.length → ∀ k (hk : k < (gs ss i).size), (gs ss i)[k].toNat < 128) := by
    intro i hi k hk
    have := allIn_true.1 (hb.2.2 i hi).2 k hk
    simp at this
    rcases this with e | e <;> rw [e] <;> decide
  have HROW : Hid (∀ i, i < ss.length → (gs ss i).size = (gs ss 0).size) := fun i hi => (hb.2.2 i hi).1
  have HBP := Lib.hid hb
  have HFEW : Hid (∀ i k, i < ss.length → k ≤ (gs ss 0).size → OkP ss 64 (scanPC ss i (scanPR ss i) k)) := fun i k hi hk => by
    have h1 := okP_scanC (okP_scanR ss i) i k
    refine ⟨h1.grid, h1.closed, ?_, h1.sub⟩
    have h2 := h1.few
    have h3 : i * (gs ss 0).size ≤ 7 * 8 := Nat.mul_le_mul (by omega) (by omega)
    omega
  clear h hb hc
  go_enter Tryd.func99, Tryd.ntmps99
  go_wp2_with fail
  obtain ⟨W, hW⟩ : ∃ W, W = (w.alloc (.cells #[.slice (some ⟨b, o, none⟩) ss.length c] 60)).alloc (.cells #[] 60) := ⟨_, rfl⟩
  have e0 : Blk W w.heap.size 60 #[.slice (some ⟨b, o, none⟩) ss.length c] := by rw [hW]; exact (Blk.new w _ _).alloc _
  have hAW : Below w.heap.size w W := by rw [hW]; exact bel2 w _ _
  have hzW : W.heap.size = w.heap.size + 2 := by rw [hW]; simp
  have hoW : Own W (w.heap.size + 1) 60 (.slice (some ⟨w.heap.size + 1, 0, none⟩) 0 0) [] := by
    have := Own.empty (w.alloc (.cells #[.slice (some ⟨b, o, none⟩) ss.length c] 60)) 60 60 (w.heap.size + 1) (by simp)
    rw [hW]
    simpa using this
  rw [← hW]
  clear hW
  ((with_reducible refine (marksI_any _ _ _ W B (by omega) (HRD.out W hAW) HBP.out).mono ?_); rintro e w1 ⟨Am, cm, rfl, hfr, hb1⟩)
  obtain ⟨cs, hgr⟩ := hfr.gr
  have e1 := e0.below hb1 e0.lt
  have hbA := gtr hAW (hb1)
  have hoA := hoW.below hb1
  have HCS : Hid (∀ (i : Nat) (u : Value) (k : Nat), cs[i]? = some u → u.ownBlock = some k → W.heap.size ≤ k ∧ k < w1.heap.size) := fun i u k hi hu => hgr.row hi hu
  have hz1 := hb1.size
  have q0 : w1.cell? ⟨w.heap.size, 0, none⟩ = some (.slice (some ⟨b, o, none⟩) ss.length c) := e1.cell 0
  have HOU : Hid (OutS w1 (w.heap.size + 1) W.heap.size w1.heap.size (.slice (some ⟨w.heap.size + 1, 0, none⟩) 0 0) []) := ⟨[], hoA, ⟨rfl, fun i hi => absurd hi (by simp), fun i j u u' g hi => by simp at hi⟩, fun i u g hi => by simp at hi, fun g hg => .inl (by have hg' : w.heap.size + 1 = g := (by injection hg); omega)⟩
  obtain ⟨gv, cv0, _, _, hgv, -⟩ := hgr.at (noM_grid _ _) (i := 0) (k := 0) (by omega) (by omega)
  injection hgv with hgv1 hgv2 hgv3
  subst hgv1
  subst hgv3
  clear hgv2
  have HGV : Hid (gv < w1.heap.size) := (hgr.1.lt gv rfl).2
  have HGR := Lib.hid hgr; have HE1 := Lib.hid e1; have HBA := Lib.hid hbA
  obtain ⟨S0, hS0⟩ : ∃ S0, S0 = w1.heap.size := ⟨_, rfl⟩
  rw [← hS0] at HCS HOU HGV
  have hS1 : S0 ≤ w1.heap.size := by omega
  have hLS : W.heap.size ≤ S0 := by omega
  clear hS0 hfr hgr e0 e1 hbA hoA hoW hb1
  go_wp2
  clear q0
  go_loopw [3, 14] (fun v i wr => ∃ (k : Nat) (A' : Option Addr) (c' : Nat), i = .int .i64 k ∧ k ≤ ss.length ∧ v = .slice A' (scanPR ss k).2.length c' ∧ OutS wr (w.heap.size + 1) W.heap.size S0 (.slice A' (scanPR ss k).2.length c') (scanPR ss k).2 ∧ GrC wr W.heap.size (.slice (some ⟨gv, 0, none⟩) ss.length cm) cs (scanPR ss k).1 ∧ Blk wr w.heap.size 60 #[.slice (some ⟨b, o, none⟩) ss.length c] ∧ Below w.heap.size w wr ∧ S0 ≤ wr.heap.size) (fun _ i _ => ss.length - (intOf i).toNat)
  case atStart => exact ⟨0, _, _, rfl, by omega, rfl, HOU.out, HGR.out, HE1.out, HBA.out, hS1⟩
  case round =>
    clear HOU HGR HE1 HBA hS1
    obtain ⟨k, A', c', rfl, hk, rfl, hou, hgr, he, hbw, hzr⟩ := hrel
    by_cases hlt : k < ss.length
    · have qk := HR.out wr hbw k hlt
      have q0 : wr.cell? ⟨w.heap.size, 0, none⟩ = some (.slice (some ⟨b, o, none⟩) ss.length c) := he.cell 0
      have hsz := HROW.out k hlt
      have HAS : Hid (∀ j (hj : j < (gs ss k).size), (gs ss k)[j].toNat < 128) := HASC.out k hlt
      obtain ⟨st, hst⟩ : ∃ st, st = scanPR ss k := ⟨_, rfl⟩
      have HOK : Hid (∀ j, j ≤ (gs ss 0).size → OkP ss 64 (scanPC ss k st j)) := fun j hj => by rw [hst]; exact HFEW.out k j hlt hj
      have HNEXT : Hid (scanPR ss (k + 1) = scanPC ss k st (gs ss 0).size) := by show _ = _; rw [hst]; rfl
      rw [← hst] at hou hgr ⊢
      clear hst
      generalize gs ss k = r at *
      obtain ⟨V, hV⟩ : ∃ V, V = wr.iter r 0 := ⟨_, rfl⟩
      have kI : ItAt V wr.heap.size r 0 := by rw [hV]; exact ItAt.new _ _
      have hbV : Below wr.heap.size wr V := by rw [hV]; exact bel1 _ _
      have hzV : V.heap.size = wr.heap.size + 1 := by rw [hV]; simp [World.iter]
      have HSZ := Lib.hid hsz
      clear hsz
      go_wp2
      first | rw [← hV] | (show Code.wp _ _ _ _ _; rw [← hV])
      clear hV q0 qk
      have ou0 := hou.below hbV
      have gr0 := hgr.below hbV
      have e0 := he.below hbV he.lt
      have bw0 := hbw.trans (hbV.mono (by have := hbw.size; omega))
      obtain ⟨gi, hgi⟩ : ∃ gi, gi = wr.heap.size := ⟨_, rfl⟩
      rw [← hgi] at kI hzV hzr ⊢
      have hgiw : w.heap.size < gi := by omega
      clear hou hgr he hbw hbV hgi
      go_loopw [3] (fun v wv => ∃ (j : Nat) (A2 : Option Addr) (c2 : Nat), j ≤ r.size ∧ ItAt wv gi r j ∧ v = .slice A2 (scanPC ss k st j).2.length c2 ∧ OutS wv (w.heap.size + 1) W.heap.size S0 (.slice A2 (scanPC ss k st j).2.length c2) (scanPC ss k st j).2 ∧ GrC wv W.heap.size (.slice (some ⟨gv, 0, none⟩) ss.length cm) cs (scanPC ss k st j).1 ∧ Blk wv w.heap.size 60 #[.slice (some ⟨b, o, none⟩) ss.length c] ∧ Below w.heap.size w wv ∧ gi + 1 ≤ wv.heap.size) (fun _ wv => r.size - wv.iterPos gi)
      case atStart => exact ⟨0, A', c', by omega, kI, rfl, ou0, gr0, e0, bw0, by omega⟩
      case round =>
        clear kI ou0 gr0 e0 bw0 hzV
        obtain ⟨j, A2, c2, hj, hI, rfl, hou, hgr, he, hbw, hzv⟩ := hrel
        have HPOS := Lib.hid hI.pos
        by_cases hjl : j < r.size
        · obtain ⟨w2, hnx, hI2, hg2, hz2⟩ := next_more (P := Tryd.prog) hI hjl (HAS.out j hjl)
          have hnx := hnx 0
          have ou2 := hou.stepIt hI hg2
          have gr2 := hgr.stepIt hI hg2
          have e2 := he.grown hg2 (by simp; omega)
          have bw2 := hbw.grown hg2 (by omega) fun g hg => by injection hg with hg; omega
          have q0 : w2.cell? ⟨w.heap.size, 0, none⟩ = some (.slice (some ⟨b, o, none⟩) ss.length c) := e2.cell 0
          have hjC : j < (gs ss 0).size := by rw [← HSZ.out]; exact hjl
          have HOKJ := Lib.hid (HOK.out j (by omega))
          have HST : Hid (scanPC ss k st (j + 1) = stepP ss (scanPC ss k st j) k j) := rfl
          have HF : Hid (∀ V, Below w2.heap.size w2 V → Calls Tryd.prog 150 #[.agg #[.slice (some ⟨b, o, none⟩) ss.length c], .int .i64 k, .int .i64 j] V fun e w' => e = .returned (.bool (frI ss k j)) ∧ Below V.heap.size V w') := fun V hV => free_any _ c ss k j V B (by have := bw2.size; have := hV.size; omega) (HRD.out V (bw2.trans (hV.mono (by have := bw2.size; omega)))) HBP.out
          obtain ⟨st2, hst2⟩ : ∃ st2, st2 = scanPC ss k st j := ⟨_, rfl⟩
          rw [← hst2] at HOKJ HST ou2 gr2 ⊢
          clear hst2 hou hgr he hbw hI
          have HI2 := Lib.hid hI2; have HO2 := Lib.hid ou2; have HG2 := Lib.hid gr2; have HE2 := Lib.hid e2; have HB2 := Lib.hid bw2
          have hzw2 := bw2.size
          clear hI2 ou2 gr2 e2 bw2 hg2
          cases hf : frI ss k j
          · have HS : Hid (stepP ss st2 k j = st2) := by show _ = _; unfold stepP; rw [if_neg (by rw [hf]; simp)]
            rw [hf] at HF
            go_wp2_with fail
            ((with_reducible refine (HF.out _ (Below.refl _ _)).mono ?_); rintro e w3 ⟨rfl, hb3⟩)
            have HB3 := Lib.hid hb3
            have hz3 := hb3.size
            clear hb3 q0
            go_wp2
            go_roundw
            case rel => exact ⟨j + 1, A2, c2, by omega, HI2.out.below HB3.out HI2.out.lt, by rw [HST.out, HS.out], by rw [HST.out, HS.out]; exact HO2.out.below HB3.out, by rw [HST.out, HS.out]; exact HG2.out.below HB3.out, HE2.out.below HB3.out HE2.out.lt, HB2.out.trans (HB3.out.mono hzw2), by omega⟩
            case measure => rw [HPOS.out, (HI2.out.below HB3.out HI2.out.lt).pos]; omega
          · rw [hf] at HF
            go_wp2_with fail
            ((with_reducible refine (HF.out _ (Below.refl _ _)).mono ?_); rintro e w3 ⟨rfl, hb3⟩)
            have HB3 := Lib.hid hb3
            have hz3 := hb3.size
            have gr3 := HG2.out.below hb3
            obtain ⟨gv', cv', g, c3, hv, hv1, hv2, hc1, hc2, p1, p2, p3, p4⟩ := gr3.at HOKJ.out.grid hlt hjC
            injection hv with hv3 hv4 hv5
            injection hv3 with hv3
            injection hv3 with hv3
            subst hv3 hv5
            have HG3 := Lib.hid gr3
            have HE3 := Lib.hid (HE2.out.below hb3 HE2.out.lt)
            have q3 : w3.cell? ⟨w.heap.size, 0, none⟩ = some (.slice (some ⟨b, o, none⟩) ss.length c) := HE3.out.cell 0
            clear hb3 q0 gr3 p3 p4
            cases hm : getM st2.1 k j
            · rw [hm] at p2
              have HS : Hid (stepP ss st2 k j = (flood (frI ss) st2.1 k j, st2.2 ++ [trimL (onlyL (flood (frI ss) (noM ss.length (gs ss 0).size) k j))])) := by show _ = _; unfold stepP; rw [if_pos ⟨hf, hm⟩]
              go_wp2_with fail
              have HB23 := Lib.hid (HB2.out.trans (HB3.out.mono hzw2))
              have hz03 : w.heap.size ≤ w3.heap.size := by omega
              ((with_reducible refine (marksI_any _ _ _ w3 B (by omega) (HRD.out w3 HB23.out) HBP.out).mono ?_); rintro e w4 ⟨A4, c4, rfl, hfr4, hb4⟩)
              obtain ⟨cs2, g4⟩ := hfr4.gr
              have HB4 := Lib.hid hb4; have HG4 := Lib.hid g4
              have hz4 := hb4.size
              have q4 : w4.cell? ⟨w.heap.size, 0, none⟩ = some (.slice (some ⟨b, o, none⟩) ss.length c) := (HE3.out.below hb4 HE3.out.lt).cell 0
              clear hb4 g4 hfr4 q3 p1 p2
              have HC5 : Hid (Calls Tryd.prog 151 #[.agg #[.slice (some ⟨b, o, none⟩) ss.length c], .int .i64 k, .int .i64 j, .slice A4 ss.length c4] w4 fun e w' => e = .returned (.tuple #[]) ∧ GrC w' w3.heap.size (.slice A4 ss.length c4) cs2 (flood (frI ss) (noM ss.length (gs ss 0).size) k j) ∧ Rows w4 w' cs2) :=
                compI_any _ c ss HBP.out B w3.heap.size (by omega) _ _ k j w4 _ cs2 (Nat.lt_succ_self _) (noM_grid _ _) HG4.out (by omega) (HRD.out w4 (HB23.out.trans (HB4.out.mono hz03))) (by omega) (by omega) (by omega) (by omega)
              go_wp2_with fail
              ((with_reducible refine HC5.out.mono ?_); rintro e w5 ⟨rfl, g5, r5⟩)
              have hb5 : Below w3.heap.size w3 w5 := Rows.below HB4.out r5 hz4 fun i u kk hi hu => (HG4.out.row hi hu).1
              have hz5 := hb5.size
              have q5 : w5.cell? ⟨w.heap.size, 0, none⟩ = some (.slice (some ⟨b, o, none⟩) ss.length c) := (HE3.out.below hb5 HE3.out.lt).cell 0
              have HB35 := Lib.hid hb5; have HG5 := Lib.hid g5
              have HB5 := Lib.hid (HB23.out.trans (hb5.mono hz03))
              clear g5 r5 hb5 q4 HC5
              have HC6 : Hid (Calls Tryd.prog 151 #[.agg #[.slice (some ⟨b, o, none⟩) ss.length c], .int .i64 k, .int .i64 j, .slice (some ⟨gv, 0, none⟩) ss.length cm] w5 fun e w' => e = .returned (.tuple #[]) ∧ GrC w' W.heap.size (.slice (some ⟨gv, 0, none⟩) ss.length cm) cs (flood (frI ss) st2.1 k j) ∧ Rows w5 w' cs) :=
                compI_any _ c ss HBP.out B W.heap.size (by omega) _ _ k j w5 _ cs (Nat.lt_succ_self _) HOKJ.out.grid (HG3.out.below HB35.out) (by omega) (HRD.out w5 HB5.out) (by omega) (by omega) (by omega) (by omega)
              go_wp2_with fail
              ((with_reducible refine HC6.out.mono ?_); rintro e w6 ⟨rfl, g6, r6⟩)
              have hz6 := r6.size
              have HI6 := Lib.hid ((HI2.out.below (HB3.out.trans (HB35.out.mono hz3)) HI2.out.lt).rows r6 fun i u hi hu => by have := (HCS.out i u gi hi hu).2; omega)
              have HO6 := Lib.hid (((HO2.out.below HB3.out).below HB35.out).rows r6 HCS.out)
              have HE6 := Lib.hid ((HE3.out.below HB35.out HE3.out.lt).rows r6 fun i u hi hu => by have := (HCS.out i u _ hi hu).1; omega)
              have HB6 := Lib.hid (Rows.below HB5.out r6 (by omega) fun i u kk hi hu => by have := (HCS.out i u kk hi hu).1; omega)
              have HIN6 := Lib.hid (HG5.out.other r6 fun i u kk hi hu => by have := (HCS.out i u kk hi hu).2; omega)
              have HG6 := Lib.hid g6
              have q6 : w6.cell? ⟨w.heap.size, 0, none⟩ = some (.slice (some ⟨b, o, none⟩) ss.length c) := HE6.out.cell 0
              clear g6 r6 q5 HC6
              have HGF : Hid (Grid ss.length (gs ss 0).size (flood (frI ss) (noM ss.length (gs ss 0).size) k j)) := (flood_grid (inR_frI (ss := ss)) k j (noM_grid _ _)).1
              have HSUB : Hid (∀ a b, getM (flood (frI ss) (noM ss.length (gs ss 0).size) k j) a b = true → frI ss a b = true) := fun a b hab => flood_sub (noM_grid _ _) (noM_closed _ _ _) (fun i k h => by rw [noM_get] at h; cases h) k j a b hab
              have HSF := Lib.hid HOKJ.out.few
              generalize flood (frI ss) (noM ss.length (gs ss 0).size) k j = M' at *
              generalize flood (frI ss) st2.1 k j = N' at *
              have HC7 : Hid (Calls Tryd.prog 152 #[.agg #[.slice (some ⟨b, o, none⟩) ss.length c], .slice A4 ss.length c4] w6 (RetT w6 (onlyL M'))) :=
                onlyI_any _ c ss A4 c4 M' w6 B w6.heap.size (by omega) (Nat.le_refl _) (HRD.out w6 HB6.out) HBP.out HIN6.out.rdB HGF.out HSUB.out
              go_wp2_with fail
              ((with_reducible refine HC7.out.mono ?_); rintro e w7 ⟨A7, c7, rfl, ho7, hb7⟩)
              have HO7 := Lib.hid ho7; have HB7 := Lib.hid hb7
              have hz7 := hb7.size
              clear ho7 hb7 q6 HC7
              have HC8 : Hid (Calls Tryd.prog 153 #[.agg #[.slice A7 (onlyL M').length c7]] w7 (RetT w7 (trimL (onlyL M')))) :=
                trimI_any A7 c7 (onlyL M') w7 w7.heap.size (Nat.le_refl _) HO7.out.rd (boardP_only HGF.out hn hw)
              have HT8 : Hid ((trimL (onlyL M')).length ≤ 8) := trimP_le HGF.out hn hw
              go_wp2_with fail
              ((with_reducible refine HC8.out.mono ?_); rintro e w8 ⟨A8, c8, rfl, ho8, hb8⟩)
              have HO8 := Lib.hid ho8; have HB8 := Lib.hid hb8
              have hz8 := hb8.size
              clear ho8 hb8 HC8
              generalize trimL (onlyL M') = tb at *
              obtain ⟨os, x1, x2, x3, x4⟩ := HO6.out.below HB7.out
              have HX := Lib.hid (And.intro x1 (And.intro x2 x3)); have HX4 := Lib.hid x4
              have HOL : Hid (os.length = st2.2.length) := by show _ = _; rw [x2.1, List.length_map]
              have HX1 := Lib.hid x1
              clear x1 x2 x3 x4
              have hfew := HSF.out
              go_wp2_with (first
                | (at_builtin
                   refine wpList_append_at rfl _ _ 57 60 (.agg #[.slice none 0 0]) 24 rfl Tryd.underlying57 infoBoard rfl (by omega) (w.heap.size + 1) (.slice A2 st2.2.length c2) os rfl ((HX1.out.below HB8.out).below (bel1 _ _)) _ _ _ _ [.slice A8 tb.length c8] rfl rfl (Rd.of_blk (Blk.new _ _ _) (Nat.lt_succ_self _)) (fun u hu => by simp at hu; subst hu; rfl) (by rw [HOL.out]; simp; omega) (by simp; omega) ?_
                   intro A9 c9 w9 ho9 hb9 hg9 hp9
                   rw [HOL.out] at ho9 hp9 ⊢
                   have HP := Lib.hid (push2 (w := w7) (w1 := w8) (w2 := w8.alloc (.cells #[.slice A8 tb.length c8] 60)) HX.out (show S0 ≤ w7.heap.size by omega) HB8.out HO8.out (bel1 _ _) ho9 hg9 hp9)
                   have HG9 := Lib.hid hg9; have HP9 := Lib.hid hp9
                   have hz9 := hb9.size
                   simp at hz9
                   clear ho9 hb9 hg9 hp9)
                | fail)
              have hvne : ∀ g, (Value.slice A2 st2.2.length c2).ownBlock = some g → g < W.heap.size ∨ S0 ≤ g := HX4.out
              have HOUT : Hid (OutS w9 (w.heap.size + 1) W.heap.size S0 (.slice A9 (st2.2.length + 1) c9) (st2.2 ++ [tb])) := by
                obtain ⟨y1, y2, y3⟩ := HP.out
                refine ⟨os ++ [.slice A8 tb.length c8], y1, by rw [List.map_append]; exact y2, y3, fun g hg => ?_⟩
                rcases HP9.out with e | e
                · exact hvne g (by rw [← e]; exact hg)
                · have e2 : some (w8.alloc (.cells #[.slice A8 tb.length c8] 60)).heap.size = some g := e.symm.trans hg
                  injection e2 with e2
                  simp at e2
                  exact .inr (by omega)
              have HG8 := Lib.hid (((HG6.out.below HB7.out).below HB8.out).below (bel1 _ (.cells #[.slice A8 tb.length c8] 60)))
              have HGN := Lib.hid (HG8.out.grownOut HG9.out hvne (fun g hg => by have hg' : gv = g := (by injection hg); have := HGV.out; omega) (fun i u kk hi hu => (HCS.out i u kk hi hu).2))
              have HI8 := Lib.hid (((HI6.out.below HB7.out HI6.out.lt).below HB8.out (by have := HI6.out.lt; omega)).alloc (.cells #[.slice A8 tb.length c8] 60))
              have hoI : (Value.slice A2 st2.2.length c2).ownBlock ≠ some gi := ((HO6.out.notIt HI6.out))
              have HIN := Lib.hid (HI8.out.grown HG9.out (fun e => hoI e.symm))
              have HEN := Lib.hid ((((HE6.out.below HB7.out HE6.out.lt).below HB8.out (by omega)).alloc (.cells #[.slice A8 tb.length c8] 60)).grown HG9.out (fun e => by have := (HX1.out.lt _ e.symm).1; omega))
              have HBN : Hid (Below w.heap.size w w9) := by
                have t1 := (HB6.out.trans (HB7.out.mono (by omega))).trans (HB8.out.mono (by omega))
                exact (t1.alloc (by omega) _).grown HG9.out (by simp; omega) fun g hg => by have := (HX1.out.lt g hg).1; omega
              clear hvne hoI
              go_wp2
              go_roundw
              case rel =>
                refine ⟨j + 1, A9, c9, by omega, HIN.out, ?_, ?_, ?_, HEN.out, HBN.out, by omega⟩
                · rw [HST.out, HS.out]; simp
                · rw [HST.out, HS.out]; simpa using HOUT.out
                · rw [HST.out, HS.out]; exact HGN.out
              case measure => rw [HPOS.out, HIN.out.pos]; omega
            · rw [hm] at p2
              have HS : Hid (stepP ss st2 k j = st2) := by show _ = _; unfold stepP; rw [if_neg (by rw [hm]; simp)]
              go_wp2
              go_roundw
              case rel => exact ⟨j + 1, A2, c2, by omega, HI2.out.below HB3.out HI2.out.lt, by rw [HST.out, HS.out], by rw [HST.out, HS.out]; exact HO2.out.below HB3.out, by rw [HST.out, HS.out]; exact HG3.out, HE3.out, HB2.out.trans (HB3.out.mono hzw2), by omega⟩
              case measure => rw [HPOS.out, (HI2.out.below HB3.out HI2.out.lt).pos]; omega
        · obtain rfl : j = r.size := by omega
          have hnx := next_end (P := Tryd.prog) hI hjl 0
          have HO := Lib.hid hou; have HG := Lib.hid hgr; have HE := Lib.hid he; have HB := Lib.hid hbw
          clear hou hgr he hbw
          go_wp2
          go_roundw
          case rel =>
            refine ⟨k + 1, A2, c2, by go_num, by omega, ?_, ?_, ?_, HE.out, HB.out, by omega⟩
            · rw [HNEXT.out, ← HSZ.out]
            · rw [HNEXT.out, ← HSZ.out]; exact HO.out
            · rw [HNEXT.out, ← HSZ.out]; exact HG.out
          case measure => simp [intOf]; omega
    · obtain rfl : k = ss.length := by omega
      have HO := Lib.hid hou; have HB := Lib.hid hbw
      clear hou hgr he hbw
      go_wp2
      go_ret
      exact ⟨A', c', rfl, HO.out.frR (by omega) (by omega), HB.out⟩
end Go.Proofs.YtadljglcbieifaaDoor
