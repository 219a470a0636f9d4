/- FnExactAlikeHeaps returns true: the walk. Conditions: none. -/
import Derived.Test.YtbledcogbkeneaaTgA
import Derived.Test.YtbledcogbkeneaaEqB
namespace Go.Proofs.Ytbledcogbkeneaa
open Go.RowKit Go.Maps
set_option linter.unusedVariables false

/-- Whether both positions are admissible; whether the box does not part them. -/
noncomputable def alkB (cs : List Int) (s m : Int) (p q : List Int) : Bool := admB cs s m p && admB cs s m q
noncomputable def alkV (cs : List Int) (s m : Int) (p q : List Int) : Bool := alkB cs s m p q && decide (sg cs (allTo s.toNat (m.toNat + 1)) p = sg cs (allTo s.toNat (m.toNat + 1)) q)
theorem RdB.tw' {w w' : World} {a b B c : Nat} {A : Option Addr} {xs : List Bool} (h : RdB w B A c xs) (ht : Tw w w' a b) (hB : B ≤ w.heap.size) (hn : ∀ p, A = some p → p.block ≠ a ∧ p.block ≠ b) : RdB w' B A c xs := by
  refine ⟨h.1, h.2.1, h.2.2.1, fun j hj => ?_⟩
  obtain ⟨k, o, e, hb, hc⟩ := h.2.2.2 j hj
  have hne := hn _ e
  exact ⟨k, o, e, hb, fun i v hi => (World.cell?_of_block (a := ⟨k, o + i, none⟩) (ht.2.2.2.2 k (by omega) hne.1 hne.2)).trans (hc i v hi)⟩

set_option maxRecDepth 100000 in
set_option maxHeartbeats 1600000 in
theorem alkI_any (A A' A'' : Option Addr) (c c' c'' : Nat) (s m : Int) (cs p q : List Int) (w : World) (B : Nat) (hB : B ≤ w.heap.size) (h : RdI w B A c cs) (h' : RdI w B A' c' p) (h'' : RdI w B A'' c'' q) (hA' : ∀ a, A' = some a → a.block < w.heap.size) (hA'' : ∀ a, A'' = some a → a.block < w.heap.size) :
    Calls Try.prog 18 #[.slice A cs.length c, .agg #[.int .i64 s, .int .i64 m], .slice A' p.length c', .slice A'' q.length c''] w fun e w' => e = .returned (.tuple #[.bool (alkV cs s m p q), .bool (alkB cs s m p q)]) ∧ Below w.heap.size w w' := by
  have HAD := Lib.hid fun W (hW : Below w.heap.size w W) => admI_any A A' c c' s m cs p W B (Nat.le_trans hB hW.size) (h.below hW hB) (h'.below hW hB)
  have HAE := Lib.hid fun W (hW : Below w.heap.size w W) => admI_any A A'' c c'' s m cs q W B (Nat.le_trans hB hW.size) (h.below hW hB) (h''.below hW hB)
  rcases hb : admB cs s m p with _ | _
  · have HN : Hid (alkB cs s m p q = false) := Lib.hid (by rw [alkB, hb]; rfl)
    have HV : Hid (alkV cs s m p q = false) := Lib.hid (by rw [alkV, HN.out]; rfl)
    rw [hb] at HAD
    clear hb
    go_enter Try.func18, Try.ntmps18
    go_wp2_with (go_at_call 31; (with_reducible refine (HAD.out _ (bel1 _ _)).mono ?_); rintro e w1 ⟨rfl, hb1⟩)
    go_ret2
    exact ⟨by rw [HN.out, HV.out]; rfl, gtr (bel1 _ _) hb1⟩
  · rw [hb] at HAD
    rcases hb2 : admB cs s m q with _ | _
    · have HN : Hid (alkB cs s m p q = false) := Lib.hid (by rw [alkB, hb, hb2]; rfl)
      have HV : Hid (alkV cs s m p q = false) := Lib.hid (by rw [alkV, HN.out]; rfl)
      rw [hb2] at HAE
      clear hb hb2
      go_enter Try.func18, Try.ntmps18
      go_wp2_with (first
        | (go_at_call 31; (with_reducible refine (HAD.out _ (bel1 _ _)).mono ?_); rintro e w1 ⟨rfl, hb1⟩; have B1 := Lib.hid ((Blk.new w 28 #[.int .i64 s, .int .i64 m]).below hb1 (by simp)); have c0 : w1.cell? ⟨w.heap.size, 0, none⟩ = some (.int .i64 s) := B1.out.cell 0; have c1 : w1.cell? ⟨w.heap.size, 1, none⟩ = some (.int .i64 m) := B1.out.cell 1; have g1 := gtr (bel1 w (.cells #[.int .i64 s, .int .i64 m] 28)) hb1)
        | (go_at_call 31; (with_reducible refine (HAE.out w1 g1).mono ?_); rintro e w2 ⟨rfl, hb2⟩))
      go_ret2
      exact ⟨by rw [HN.out, HV.out]; rfl, gtr g1 hb2⟩
    · rw [hb2] at HAE
      have HN : Hid (alkB cs s m p q = true) := Lib.hid (by rw [alkB, hb, hb2]; rfl)
      obtain ⟨a, b, rfl, rfl, h1, h2, h3, h4, h5, hg, hx, hxs, hxl⟩ := admB_of hb
      obtain ⟨a', b', ea, eb, -, -, -, -, -, -, hy, hys, hyl⟩ := admB_of hb2
      obtain rfl : a = a' := by omega
      obtain rfl : b = b' := by omega
      have HV : Hid (alkV cs a b p q = decide (sg cs (allTo a (b + 1)) p = sg cs (allTo a (b + 1)) q)) := Lib.hid (by rw [alkV, HN.out]; simp)
      have HG := Lib.hid hg; have HX := Lib.hid hx; have HY := Lib.hid hy; have HR := Lib.hid h; have HR' := Lib.hid h'; have HR'' := Lib.hid h''; have HA := Lib.hid hA'; have HA2 := Lib.hid hA''
      clear hb hb2 hg hx hy h h' h'' hA' hA'' ea eb
      go_enter Try.func18, Try.ntmps18
      go_wp2_with (first
        | (go_at_call 31; (with_reducible refine (HAD.out _ (bel1 _ _)).mono ?_); rintro e w1 ⟨rfl, hb1⟩; have B1 := Lib.hid ((Blk.new w 28 #[.int .i64 (a : Int), .int .i64 (b : Int)]).below hb1 (by simp)); have c0 : w1.cell? ⟨w.heap.size, 0, none⟩ = some (.int .i64 (a : Int)) := B1.out.cell 0; have c1 : w1.cell? ⟨w.heap.size, 1, none⟩ = some (.int .i64 (b : Int)) := B1.out.cell 1; have g1 := gtr (bel1 w (.cells #[.int .i64 (a : Int), .int .i64 (b : Int)] 28)) hb1; have hz1 := hb1.size; simp at hz1)
        | (go_at_call 31; (with_reducible refine (HAE.out w1 g1).mono ?_); rintro e w2 ⟨rfl, hb2⟩; have B2 := Lib.hid (B1.out.below hb2 (by omega)); have G2 := Lib.hid (gtr g1 hb2); have hz2 := hb2.size)
        | (go_at_call 32; (with_reducible refine (newM_any A c cs _).mono ?_); rintro e w3 ⟨bM, rfl, hbw, hM3, hb3⟩))
      have hz3 := hb3.size
      have B3 := B2.out.below hb3 (by omega)
      have G3 := gtr G2.out hb3
      have hbl := hM3.lt
      obtain ⟨W, hW⟩ : ∃ W, W = w3.alloc (.cells #[.slice A cs.length c, .map (some bM)] 52) := ⟨_, rfl⟩
      rw [← hW]
      have hbW : Below w3.heap.size w3 W := by rw [hW]; exact bel1 _ _
      have hBX : Blk W w3.heap.size 52 #[.slice A cs.length c, .map (some bM)] := by rw [hW]; exact Blk.new _ _ _
      have hBY := B3.below hbW (by omega)
      have hM := hM3.kept (belowG hbW none) (by simp)
      have GW := gtr G3 hbW
      have hzW := hbW.size
      obtain ⟨g, hge⟩ : ∃ g, g = w3.heap.size := ⟨_, rfl⟩
      rw [← hge] at hBX ⊢
      have q0 : W.cell? ⟨g, 0, none⟩ = some (.slice A cs.length c) := hBX.cell 0
      have q1 : W.cell? ⟨g, 1, none⟩ = some (.map (some bM)) := hBX.cell 1
      have p0 : W.cell? ⟨w.heap.size, 0, none⟩ = some (.int .i64 (a : Int)) := hBY.cell 0
      have p1 : W.cell? ⟨w.heap.size, 1, none⟩ = some (.int .i64 (b : Int)) := hBY.cell 1
      have hgl := hBX.lt
      have hwl := hBY.lt
      have hgb : g ≠ bM := by omega
      have hwb : w.heap.size < bM := by omega
      have HM := Lib.hid hM; have HBX := Lib.hid hBX; have HBY := Lib.hid hBY; have HGW := Lib.hid GW
      have hwW : w.heap.size ≤ W.heap.size := GW.size
      clear hW hbW hM hBX hBY GW hge B3 G3 hM3 hb3 hbw hz3 hzW B1 c0 c1 g1 hb1 hb2 B2 G2 hz1 hz2 hbl
      have HP := Lib.hid fun (x : List Int) (hx : ∀ y ∈ x, 0 ≤ y) (hxs : sm x + (a * b : Nat) ≤ 20) (hxl : x.length ≤ 1000) (w' : World) (A' : Option Addr) (c' : Nat) (K : List (List Int)) (hM : MapM w' bM cs K) (hcode : RdI w' B A c cs) (hr : RdI w' w'.heap.size A' c' x) (hxb : ∀ a, A' = some a → a.block ≠ bM) => signsI_any cs HG.out A c B bM (by omega) a b h2 h4 h5 x w' A' c' K hx hxs hxl hM hcode hr hxb
      have HEQ := Lib.hid fun (W' : World) (A4 A5 : Option Addr) (c4 c5 b4 b5 : Nat) (k4 : Own W' b4 4 (.slice A4 (allTo a (b + 1)).length c4) (bls (sg cs (allTo a (b + 1)) p))) (k5 : Own W' b5 4 (.slice A5 (allTo a (b + 1)).length c5) (bls (sg cs (allTo a (b + 1)) q))) => by
        have := equalBl_any A4 A5 c4 c5 (sg cs (allTo a (b + 1)) p) (sg cs (allTo a (b + 1)) q) W' W'.heap.size (Nat.le_refl _) (Own.rd k4) (Own.rd k5)
        rw [sg_len, sg_len] at this
        exact this
      obtain ⟨L, hL⟩ : ∃ L, L = allTo a (b + 1) := ⟨_, rfl⟩
      rw [← hL] at HP HEQ HV
      rw [← HV.out] at HEQ
      clear hL
      have tok1 : True := trivial
      go_region_held3 (fun w' => w'.cell? ⟨g, 0, none⟩ = some (.slice A cs.length c) ∧ w'.cell? ⟨g, 1, none⟩ = some (.map (some bM)) ∧ w'.cell? ⟨w.heap.size, 0, none⟩ = some (.int .i64 (a : Int)) ∧ w'.cell? ⟨w.heap.size, 1, none⟩ = some (.int .i64 (b : Int))) (go_keep)
        (first
          | (have _t := tok1; go_at_call 42; refine (HP.out p HX.out hxs hxl W.drew A' c' [] (HM.out.kept (belowG gdrew none) (by simp)) ((HR.out.below HGW.out hB).below (gdrew (a := W)) (by omega)) (((HR'.out.below HGW.out hB).below (gdrew (a := W)) (by omega)).more (by show B ≤ W.heap.size; omega)) (fun x hx => by have := HA.out x hx; omega)).mono ?_; rintro e w4 ⟨⟨A4, c4, rfl, ho4⟩, ⟨K4, hM4⟩, hg4⟩; clear tok1 _t; have hz4 : W.heap.size ≤ w4.heap.size := hg4.size; have B4 := (HBX.out.below (gdrew (a := W)) hgl).grown hg4 (by simp; omega); have C4 := (HBY.out.below (gdrew (a := W)) hwl).grown hg4 (by simp; omega); have e0 : w4.cell? ⟨g, 0, none⟩ = some (.slice A cs.length c) := B4.cell 0; have e1 : w4.cell? ⟨g, 1, none⟩ = some (.map (some bM)) := B4.cell 1; have e2 : w4.cell? ⟨w.heap.size, 0, none⟩ = some (.int .i64 (a : Int)) := C4.cell 0; have e3 : w4.cell? ⟨w.heap.size, 1, none⟩ = some (.int .i64 (b : Int)) := C4.cell 1; have G4 := (HGW.out.trans (gdrew (a := W) |>.mono hwW)).grown hg4 hwW (fun k hk => by injection hk with hk; omega))
          | (go_at_call 42; refine (HP.out q HY.out hys hyl w4 A'' c'' K4 hM4 (HR.out.below G4 hB) ((HR''.out.below G4 hB).more (by omega)) (fun x hx => by have := HA2.out x hx; omega)).mono ?_; rintro e w5 ⟨⟨A5, c5, rfl, ho5⟩, ⟨K5, hM5⟩, hg5⟩; have B5 := B4.grown hg5 (by simp; omega); have C5 := C4.grown hg5 (by simp; omega); have f0 : w5.cell? ⟨g, 0, none⟩ = some (.slice A cs.length c) := B5.cell 0; have f1 : w5.cell? ⟨g, 1, none⟩ = some (.map (some bM)) := B5.cell 1; have f2 : w5.cell? ⟨w.heap.size, 0, none⟩ = some (.int .i64 (a : Int)) := C5.cell 0; have f3 : w5.cell? ⟨w.heap.size, 1, none⟩ = some (.int .i64 (b : Int)) := C5.cell 1; have G5 := G4.grown hg5 (by omega) (fun k hk => by injection hk with hk; omega); have hbM : bM < W.drew.heap.size := HM.out.lt; have ho4' := ho4.grownLb hg5 hbM)
          | (go_at_call 41; refine (HEQ.out w5 A4 A5 c4 c5 _ _ ho4' ho5).mono ?_; rintro e w6 ⟨rfl, hb6⟩; have B6 := B5.below hb6 B5.lt; have C6 := C5.below hb6 C5.lt; have i0 : w6.cell? ⟨g, 0, none⟩ = some (.slice A cs.length c) := B6.cell 0; have i1 : w6.cell? ⟨g, 1, none⟩ = some (.map (some bM)) := B6.cell 1; have i2 : w6.cell? ⟨w.heap.size, 0, none⟩ = some (.int .i64 (a : Int)) := C6.cell 0; have i3 : w6.cell? ⟨w.heap.size, 1, none⟩ = some (.int .i64 (b : Int)) := C6.cell 1))
      all_goals
        have HE := Lib.hid (gtr G5 hb6)
        clear hb6 G5 G4 ho4 ho5 ho4' hM4 hM5 hg4 hg5 B4 B5 B6 C4 C5 C6 e0 e1 e2 e3 f0 f1 f2 f3 i0 i1 i2 i3 q0 q1 p0 p1
        go_wp2
        go_ret2
        exact ⟨by rw [HN.out]; rfl, HE.out⟩

set_option maxRecDepth 100000 in
set_option maxHeartbeats 1600000 in
theorem alkS_any (A A' A'' : Option Addr) (c c' c'' : Nat) (s m : Int) (cs p q : List Int) (w : World) (B : Nat) (hB : B ≤ w.heap.size) (h : RdI w B A c cs) (h' : RdI w B A' c' p) (h'' : RdI w B A'' c'' q) (hA' : ∀ a, A' = some a → a.block < w.heap.size) (hA'' : ∀ a, A'' = some a → a.block < w.heap.size) :
    Calls Try.prog 17 #[.slice A cs.length c, .agg #[.int .i64 s, .int .i64 m], .slice A' p.length c', .slice A'' q.length c''] w fun e w' => e = .returned (.tuple #[.bool (alkV cs s m p q), .bool (alkB cs s m p q)]) ∧ Below w.heap.size w w' := by
  have HAD := Lib.hid fun W (hW : Below w.heap.size w W) => admS_any A A' c c' s m cs p W B (Nat.le_trans hB hW.size) (h.below hW hB) (h'.below hW hB)
  have HAE := Lib.hid fun W (hW : Below w.heap.size w W) => admS_any A A'' c c'' s m cs q W B (Nat.le_trans hB hW.size) (h.below hW hB) (h''.below hW hB)
  rcases hb : admB cs s m p with _ | _
  · have HN : Hid (alkB cs s m p q = false) := Lib.hid (by rw [alkB, hb]; rfl)
    have HV : Hid (alkV cs s m p q = false) := Lib.hid (by rw [alkV, HN.out]; rfl)
    rw [hb] at HAD
    clear hb
    go_enter Try.func17, Try.ntmps17
    go_wp2_with (go_at_call 26; (with_reducible refine (HAD.out _ (bel1 _ _)).mono ?_); rintro e w1 ⟨rfl, hb1⟩)
    go_ret2
    exact ⟨by rw [HN.out, HV.out]; rfl, gtr (bel1 _ _) hb1⟩
  · rw [hb] at HAD
    rcases hb2 : admB cs s m q with _ | _
    · have HN : Hid (alkB cs s m p q = false) := Lib.hid (by rw [alkB, hb, hb2]; rfl)
      have HV : Hid (alkV cs s m p q = false) := Lib.hid (by rw [alkV, HN.out]; rfl)
      rw [hb2] at HAE
      clear hb hb2
      go_enter Try.func17, Try.ntmps17
      go_wp2_with (first
        | (go_at_call 26; (with_reducible refine (HAD.out _ (bel1 _ _)).mono ?_); rintro e w1 ⟨rfl, hb1⟩; have B1 := Lib.hid ((Blk.new w 28 #[.int .i64 s, .int .i64 m]).below hb1 (by simp)); have c0 : w1.cell? ⟨w.heap.size, 0, none⟩ = some (.int .i64 s) := B1.out.cell 0; have c1 : w1.cell? ⟨w.heap.size, 1, none⟩ = some (.int .i64 m) := B1.out.cell 1; have g1 := gtr (bel1 w (.cells #[.int .i64 s, .int .i64 m] 28)) hb1)
        | (go_at_call 26; (with_reducible refine (HAE.out w1 g1).mono ?_); rintro e w2 ⟨rfl, hb2⟩))
      go_ret2
      exact ⟨by rw [HN.out, HV.out]; rfl, gtr g1 hb2⟩
    · rw [hb2] at HAE
      have HN : Hid (alkB cs s m p q = true) := Lib.hid (by rw [alkB, hb, hb2]; rfl)
      obtain ⟨a, b, rfl, rfl, h1, h2, h3, h4, h5, hg, hx, hxs, hxl⟩ := admB_of hb
      obtain ⟨a', b', ea, eb, -, -, -, -, -, -, hy, hys, hyl⟩ := admB_of hb2
      obtain rfl : a = a' := by omega
      obtain rfl : b = b' := by omega
      have HV : Hid (alkV cs a b p q = decide (sg cs (allTo a (b + 1)) p = sg cs (allTo a (b + 1)) q)) := Lib.hid (by rw [alkV, HN.out]; simp)
      have HG := Lib.hid hg; have HX := Lib.hid hx; have HY := Lib.hid hy; have HR := Lib.hid h; have HR' := Lib.hid h'; have HR'' := Lib.hid h''; have HA := Lib.hid hA'; have HA2 := Lib.hid hA''
      clear hb hb2 hg hx hy h h' h'' hA' hA'' ea eb
      go_enter Try.func17, Try.ntmps17
      go_wp2_with (first
        | (go_at_call 26; (with_reducible refine (HAD.out _ (bel1 _ _)).mono ?_); rintro e w1 ⟨rfl, hb1⟩; have B1 := Lib.hid ((Blk.new w 28 #[.int .i64 (a : Int), .int .i64 (b : Int)]).below hb1 (by simp)); have c0 : w1.cell? ⟨w.heap.size, 0, none⟩ = some (.int .i64 (a : Int)) := B1.out.cell 0; have c1 : w1.cell? ⟨w.heap.size, 1, none⟩ = some (.int .i64 (b : Int)) := B1.out.cell 1; have g1 := gtr (bel1 w (.cells #[.int .i64 (a : Int), .int .i64 (b : Int)] 28)) hb1; have hz1 := hb1.size; simp at hz1)
        | (go_at_call 26; (with_reducible refine (HAE.out w1 g1).mono ?_); rintro e w2 ⟨rfl, hb2⟩; have B2 := Lib.hid (B1.out.below hb2 (by omega)); have G2 := Lib.hid (gtr g1 hb2); have hz2 := hb2.size)
        | (go_at_call 27; (with_reducible refine (new_any A c cs _).mono ?_); rintro e W ⟨g, gk, gv, rfl, hw1, hw2, hw3, hM, hb3⟩))
      have hz3 := hb3.size
      have hBY := B2.out.below hb3 (by omega)
      have GW := gtr G2.out hb3
      have hwW : w.heap.size ≤ W.heap.size := GW.size
      have p0 : W.cell? ⟨w.heap.size, 0, none⟩ = some (.int .i64 (a : Int)) := hBY.cell 0
      have p1 : W.cell? ⟨w.heap.size, 1, none⟩ = some (.int .i64 (b : Int)) := hBY.cell 1
      have hwl := hBY.lt
      have hwk : w.heap.size < gk := by omega
      have hwv : w.heap.size < gv := by omega
      obtain ⟨-, hkW, hvW⟩ := hM.lt
      obtain ⟨ks, hks⟩ : ∃ ks : List Int, ks = List.replicate 8192 (-1) := ⟨_, rfl⟩
      obtain ⟨vs, hvs⟩ : ∃ vs : List Int, vs = List.replicate 8192 0 := ⟨_, rfl⟩
      rw [← hks, ← hvs] at hM
      have HM := Lib.hid hM; have HBY := Lib.hid hBY; have HGW := Lib.hid GW
      clear hM hBY GW hb3 hw1 hw2 hw3 hz3 B1 c0 c1 g1 hb1 hb2 B2 G2 hz1 hz2 hks hvs
      have HP := Lib.hid fun (x : List Int) (hx : ∀ y ∈ x, 0 ≤ y) (hxs : sm x + (a * b : Nat) ≤ 20) (hxl : x.length ≤ 1000) (w' : World) (A' : Option Addr) (c' : Nat) (ks vs : List Int) (hM : BookM w' g gk gv A c cs ks vs) (hcode : RdI w' B A c cs) (hr : RdI w' w'.heap.size A' c' x) (hne : ∀ a, A' = some a → a.block ≠ gk ∧ a.block ≠ gv) => signsS_any cs HG.out A c B g gk gv (by omega) (by omega) a b h2 h4 h5 x w' A' c' ks vs hx hxs hxl hM hcode hr hne
      have HEQ := Lib.hid fun (W' : World) (A4 A5 : Option Addr) (c4 c5 b4 b5 : Nat) (k4 : Own W' b4 4 (.slice A4 (allTo a (b + 1)).length c4) (bls (sg cs (allTo a (b + 1)) p))) (k5 : Own W' b5 4 (.slice A5 (allTo a (b + 1)).length c5) (bls (sg cs (allTo a (b + 1)) q))) => by
        have := sameBl_any A4 A5 c4 c5 (sg cs (allTo a (b + 1)) p) (sg cs (allTo a (b + 1)) q) W' W'.heap.size (Nat.le_refl _) (by rw [sg_len, sg_len]) (Own.rd k4) (Own.rd k5)
        rw [sg_len, sg_len] at this
        exact this
      obtain ⟨L, hL⟩ : ∃ L, L = allTo a (b + 1) := ⟨_, rfl⟩
      rw [← hL] at HP HEQ HV
      rw [← HV.out] at HEQ
      clear hL
      have tok1 : True := trivial
      go_region_held3 (fun w' => w'.cell? ⟨w.heap.size, 0, none⟩ = some (.int .i64 (a : Int)) ∧ w'.cell? ⟨w.heap.size, 1, none⟩ = some (.int .i64 (b : Int))) (go_keep)
        (first
          | (have _t := tok1; go_at_call 29; refine (HP.out p HX.out hxs hxl W.drew A' c' ks vs (HM.out.below gdrew) ((HR.out.below HGW.out hB).below (gdrew (a := W)) (by omega)) (((HR'.out.below HGW.out hB).below (gdrew (a := W)) (by omega)).more (by show B ≤ W.heap.size; omega)) (fun x hx => by have := HA.out x hx; exact ⟨by omega, by omega⟩)).mono ?_; rintro e w4 ⟨⟨A4, c4, rfl, ho4⟩, ⟨ks4, vs4, hM4⟩, hT4⟩; clear tok1 _t; have hz4 : W.heap.size ≤ w4.heap.size := hT4.size; have C4 := (HBY.out.below (gdrew (a := W)) hwl).tw hT4 (by omega) (by omega); have e2 : w4.cell? ⟨w.heap.size, 0, none⟩ = some (.int .i64 (a : Int)) := C4.cell 0; have e3 : w4.cell? ⟨w.heap.size, 1, none⟩ = some (.int .i64 (b : Int)) := C4.cell 1; have G4 := Tw.below (HGW.out.trans (gdrew (a := W) |>.mono hwW)) hT4 (by omega) (by omega))
          | (go_at_call 29; refine (HP.out q HY.out hys hyl w4 A'' c'' ks4 vs4 hM4 (HR.out.below G4 hB) ((HR''.out.below G4 hB).more (by omega)) (fun x hx => by have := HA2.out x hx; exact ⟨by omega, by omega⟩)).mono ?_; rintro e w5 ⟨⟨A5, c5, rfl, ho5⟩, ⟨ks5, vs5, hM5⟩, hT5⟩; have C5 := C4.tw hT5 (by omega) (by omega); have f2 : w5.cell? ⟨w.heap.size, 0, none⟩ = some (.int .i64 (a : Int)) := C5.cell 0; have f3 : w5.cell? ⟨w.heap.size, 1, none⟩ = some (.int .i64 (b : Int)) := C5.cell 1; have G5 := Tw.below G4 hT5 (by omega) (by omega); have ho4' := ho4.tw hT5 (fun k hk => by have h : W.heap.size ≤ k := (ho4.lt k hk).1; exact ⟨by omega, by omega⟩))
          | (go_at_call 40; refine (HEQ.out w5 A4 A5 c4 c5 _ _ ho4' ho5).mono ?_; rintro e w6 ⟨rfl, hb6⟩; have C6 := C5.below hb6 C5.lt; have i2 : w6.cell? ⟨w.heap.size, 0, none⟩ = some (.int .i64 (a : Int)) := C6.cell 0; have i3 : w6.cell? ⟨w.heap.size, 1, none⟩ = some (.int .i64 (b : Int)) := C6.cell 1))
      all_goals
        have HE := Lib.hid (gtr G5 hb6)
        clear hb6 G5 G4 ho4 ho5 ho4' hM4 hM5 hT4 hT5 C4 C5 C6 e2 e3 f2 f3 i2 i3 p0 p1
        go_wp2
        go_ret2
        exact ⟨by rw [HN.out]; rfl, HE.out⟩

set_option maxHeartbeats 1600000 in
theorem lawAlike (a : Option Addr) (len cap : Nat) (zs : List Int) (s m : Int) (a' : Option Addr) (len' cap' : Nat) (zs' : List Int) (a'' : Option Addr) (len'' cap'' : Nat) (zs'' : List Int) (w : World) (h : IsRow .i64 w a len cap zs) (hp : (Lit.int .i64 s).wf = true) (hl : (Lit.int .i64 m).wf = true) (h' : IsRow .i64 w a' len' cap' zs') (h'' : IsRow .i64 w a'' len'' cap'' zs'') :
    Calls Try.prog 5 #[.slice a len cap, .agg #[.int .i64 s, .int .i64 m], .slice a' len' cap', .slice a'' len'' cap''] w fun e w' => e = .returned (.bool true) ∧ Below w.heap.size w w' := by
  clear hp hl
  obtain ⟨hr, hl⟩ := h.rd
  obtain ⟨hr', hl'⟩ := h'.rd
  clear h h'
  generalize zs.take len = xs at hr hl
  generalize zs'.take len' = ys at hr' hl'
  subst hl hl'
  have h1 := hr.len
  have h2 := hr.max
  have h3 := hr'.len
  have h4 := hr'.max
  obtain ⟨hr'', hl''⟩ := h''.rd
  clear h''
  generalize zs''.take len'' = vs at hr'' hl''
  subst hl''
  have h5 := hr''.len
  have h6 := hr''.max
  by_cases hbig : 1048576 < xs.length
  · go_enter Try.func5, Try.ntmps5
    go_wp2
    go_ret
    first | exact ⟨rfl, Below.refl _ _⟩ | exact ⟨rfl, bel1 _ _⟩
  by_cases hbig' : 1048576 < ys.length
  · go_enter Try.func5, Try.ntmps5
    go_wp2
    go_ret
    first | exact ⟨rfl, Below.refl _ _⟩ | exact ⟨rfl, bel1 _ _⟩
  have hsm : xs.length ≤ 1048576 := by omega
  have hsm' : ys.length ≤ 1048576 := by omega
  by_cases hbig'' : 1048576 < vs.length
  · go_enter Try.func5, Try.ntmps5
    go_wp2
    go_ret
    first | exact ⟨rfl, Below.refl _ _⟩ | exact ⟨rfl, bel1 _ _⟩
  have hsm'' : vs.length ≤ 1048576 := by omega
  have HS := Lib.hid fun A A' A'' c c' c'' W => alkS_any A A' A'' c c' c'' s m xs ys vs W W.heap.size (Nat.le_refl _)
  have HI := Lib.hid fun A A' A'' c c' c'' W => alkI_any A A' A'' c c' c'' s m xs ys vs W W.heap.size (Nat.le_refl _)
  obtain ⟨v, hv⟩ : ∃ v, v = alkV xs s m ys vs := ⟨_, rfl⟩
  obtain ⟨ok, hok⟩ : ∃ ok, ok = alkB xs s m ys vs := ⟨_, rfl⟩
  rw [← hv, ← hok] at HS HI
  clear hv hok
  have hbv : (!(v == v)) = false := by cases v <;> rfl
  have hbe : (!(ok == ok)) = false := by cases ok <;> rfl
  have hxx : decide (xs = xs) = true := decide_eq_true rfl
  have hyy : decide (ys = ys) = true := decide_eq_true rfl
  have hvv : decide (vs = vs) = true := decide_eq_true rfl
  go_enter Try.func5, Try.ntmps5
  go_wp2_with fail
  have hzW : w.heap.size < (w.alloc (.cells #[.int .i64 s, .int .i64 m] 24)).heap.size := by simp
  have hAW : Below w.heap.size w (w.alloc (.cells #[.int .i64 s, .int .i64 m] 24)) := (Below.refl _ _).alloc (Nat.le_refl _) _
  have c0W : (w.alloc (.cells #[.int .i64 s, .int .i64 m] 24)).cell? ⟨w.heap.size, 0, none⟩ = some (.int .i64 s) := by simp [go_sem]
  have c1W : (w.alloc (.cells #[.int .i64 s, .int .i64 m] 24)).cell? ⟨w.heap.size, 1, none⟩ = some (.int .i64 m) := by simp [go_sem]
  generalize w.alloc (.cells #[.int .i64 s, .int .i64 m] 24) = W at *
  have hzz := hAW.size
  have HC0 := Lib.hid fun w' (hg : Below W.heap.size W w') => (hg.cell (p := ⟨w.heap.size, 0, none⟩) hzW).trans c0W
  have HC1 := Lib.hid fun w' (hg : Below W.heap.size W w') => (hg.cell (p := ⟨w.heap.size, 1, none⟩) hzW).trans c1W
  have HAW := Lib.hid hAW
  have hrW := (hr.below hAW (Nat.le_refl _)).more hzz
  clear hr
  have hr := hrW
  clear hrW hAW
  have hrW' := (hr'.below HAW.out (Nat.le_refl _)).more hzz
  clear hr'
  have hr' := hrW'
  clear hrW'
  have hrW'' := (hr''.below HAW.out (Nat.le_refl _)).more hzz
  clear hr''
  have hr'' := hrW''
  clear hrW''
  have g0 := Below.refl W.heap.size W
  have tok1 : True := trivial
  have tok2 : True := trivial
  have v0 := HC0.out _ g0
  have v1 := HC1.out _ g0
  go_region_held3 (fun w' => w'.cell? ⟨w.heap.size, 0, none⟩ = some (.int .i64 s) ∧ w'.cell? ⟨w.heap.size, 1, none⟩ = some (.int .i64 m)) (go_keep)
    (first
      | (have _t := tok1; go_at_call 9; refine (toIntS_any _ _ xs W.drew _ g0.size (hr.below (g0.trans (gdrew (a := W) |>.mono g0.size)) (Nat.le_refl _)) hsm).mono ?_; rintro e w1 ⟨A1, c1, rfl, ho1, hb1⟩; clear tok1 _t; have g1 := gtr g0 (gtr (gdrew (a := W)) hb1); have s0 := HC0.out _ g1; have s1 := HC1.out _ g1)
      | (go_at_call 10; refine (toBox_any s m _).mono ?_; rintro e wa ⟨rfl, hba⟩; have ga := gtr g1 hba; have t0 := HC0.out _ ga; have t1 := HC1.out _ ga)
      | (have _t := tok2; go_at_call 9; refine (toIntS_any _ _ ys wa _ ga.size (hr'.below ga (Nat.le_refl _)) hsm').mono ?_; rintro e w2 ⟨A2, c2, rfl, ho2, hb2⟩; clear tok2 _t; have g2 := gtr ga hb2; have u0 := HC0.out _ g2; have u1 := HC1.out _ g2)
      | (go_at_call 9; refine (toIntS_any _ _ vs w2 _ g2.size (hr''.below g2 (Nat.le_refl _)) hsm'').mono ?_; rintro e w3 ⟨A3, c3, rfl, ho3, hb3⟩; have g3 := gtr g2 hb3; have y0 := HC0.out _ g3; have y1 := HC1.out _ g3)
      | (go_at_call 17; refine (HS.out A1 A2 A3 c1 c2 c3 _ ((((ho1.below hba).below hb2).below hb3).rd rfl) ((ho2.below hb3).rd rfl) (ho3.rd rfl) (fun q hq => by subst hq; exact ((own_ints.1 (ho2.below hb3)).lt q.block rfl).2) (fun q hq => by subst hq; exact ((own_ints.1 ho3).lt q.block rfl).2)).mono ?_; rintro e w4 ⟨rfl, hb4⟩; have g4 := gtr g3 hb4; have x0 := HC0.out _ g4; have x1 := HC1.out _ g4))
  clear ho1 hb1 hba ho2 hb2 ho3 hb3 hb4 s0 s1 t0 t1 u0 u1 x0 x1 y0 y1 v0 v1
  go_wp2_with fail
  ((with_reducible refine (toIntS_any _ _ xs _ _ g4.size (hr.below g4 (Nat.le_refl _)) hsm).mono ?_); rintro e w5 ⟨A5, c5, rfl, ho5, hb5⟩)
  have g5 := gtr g4 hb5
  go_wp2_with fail
  ((with_reducible refine (toIntS_any _ _ ys _ _ g5.size (hr'.below g5 (Nat.le_refl _)) hsm').mono ?_); rintro e w6 ⟨A6, c6, rfl, ho6, hb6⟩)
  have g6 := gtr g5 hb6
  have hx6 := ho5.below hb6
  go_wp2_with fail
  ((with_reducible refine (toIntS_any _ _ vs _ _ g6.size (hr''.below g6 (Nat.le_refl _)) hsm'').mono ?_); rintro e w7 ⟨A7, c7, rfl, ho7, hb7⟩)
  have g7 := gtr g6 hb7
  have hx7 := hx6.below hb7
  have hy7 := ho6.below hb7
  clear ho5 hx6 ho6
  have v0 := HC0.out _ g7
  have v1 := HC1.out _ g7
  go_wp2_with fail
  ((with_reducible refine (toBox_any s m _).mono ?_); rintro e wb ⟨rfl, hbb⟩)
  clear v0 v1
  have gb := gtr g7 hbb
  have hxb := hx7.below hbb
  have hyb := hy7.below hbb
  have hvb := ho7.below hbb
  clear hx7 hy7 ho7
  have hA6 : ∀ q, A6 = some q → q.block < wb.heap.size := fun q hq => by subst hq; exact ((own_ints.1 hyb).lt q.block rfl).2
  have hA7 : ∀ q, A7 = some q → q.block < wb.heap.size := fun q hq => by subst hq; exact ((own_ints.1 hvb).lt q.block rfl).2
  go_wp2_with fail
  ((with_reducible refine (HI.out A5 A6 A7 c5 c6 c7 _ (hxb.rd rfl) (hyb.rd rfl) (hvb.rd rfl) hA6 hA7).mono ?_); rintro e w8 ⟨rfl, hb8⟩)
  have g8 := gtr gb hb8
  have hx8 := hxb.below hb8
  have hy8 := hyb.below hb8
  have hv8 := hvb.below hb8
  clear hxb hyb hvb
  go_wp2_with fail
  ((with_reducible refine (toIntS_any _ _ xs _ _ g8.size (hr.below g8 (Nat.le_refl _)) hsm).mono ?_); rintro e w9 ⟨A9, c9, rfl, ho9, hb9⟩)
  have g9 := gtr g8 hb9
  have hx9 := hx8.below hb9
  have hy9 := hy8.below hb9
  have hv9 := hv8.below hb9
  go_wp2_with fail
  ((with_reducible refine (eqIntS_any _ _ _ _ xs xs _ _ (Nat.le_refl _) (hx9.rd rfl) (ho9.rd rfl)).mono ?_); rintro e wA ⟨rfl, hbA⟩)
  have gA := gtr g9 hbA
  have hyA := hy9.below hbA
  have hvA := hv9.below hbA
  clear hx8 hy8 hv8 hx9 hy9 hv9 ho9
  go_wp2_with fail
  ((with_reducible refine (toIntS_any _ _ ys _ _ gA.size (hr'.below gA (Nat.le_refl _)) hsm').mono ?_); rintro e wB ⟨AB, cB, rfl, hoB, hbB⟩)
  have gB := gtr gA hbB
  have hyB := hyA.below hbB
  have hvB := hvA.below hbB
  go_wp2_with fail
  ((with_reducible refine (eqIntS_any _ _ _ _ ys ys _ _ (Nat.le_refl _) (hyB.rd rfl) (hoB.rd rfl)).mono ?_); rintro e wC ⟨rfl, hbC⟩)
  have gC := gtr gB hbC
  have hvC := hvB.below hbC
  go_wp2_with fail
  ((with_reducible refine (toIntS_any _ _ vs _ _ gC.size (hr''.below gC (Nat.le_refl _)) hsm'').mono ?_); rintro e wD ⟨AD, cD, rfl, hoD, hbD⟩)
  have gD := gtr gC hbD
  have hvD := hvC.below hbD
  go_wp2_with fail
  ((with_reducible refine (eqIntS_any _ _ _ _ vs vs _ _ (Nat.le_refl _) (hvD.rd rfl) (hoD.rd rfl)).mono ?_); rintro e wE ⟨rfl, hbE⟩)
  go_wp2
  go_ret
  exact ⟨rfl, gtr HAW.out (gtr gD hbE)⟩
end Go.Proofs.Ytbledcogbkeneaa
