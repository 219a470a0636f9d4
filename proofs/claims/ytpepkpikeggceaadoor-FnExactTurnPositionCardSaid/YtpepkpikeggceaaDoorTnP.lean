/- TurnPosition of the program is the reference's: the walk of the law. Conditions: none. -/
import Derived.Test.YtpepkpikeggceaaDoorTnJ
namespace Go.Proofs.YtpepkpikeggceaaDoor
open Go.RowKit
set_option linter.unusedVariables false

theorem pos_all {s : ByteArray} (h : posB s = true) : (posL s).length ≤ 6 ∧ ∀ x, x ∈ posL s → sgB x = true ∧ x.size ≤ s.size := by
  cases hn : (s.toList == noneL)
  · rw [posB_mk hn, Bool.and_eq_true] at h
    have hl := of_decide_eq_true h.1
    have ha := List.all_eq_true.1 h.2
    obtain ⟨-, e⟩ := pos_good hn hl ha
    rw [e]
    exact ⟨hl, fun x hx => ⟨ha x hx, (words_at s).small x hx⟩⟩
  · have e : posL s = [] := by unfold posL; rw [if_pos hn]
    rw [e]
    exact ⟨by simp, fun x hx => by cases hx⟩
theorem sg_kar {x : ByteArray} (h : sgB x = true) : gdB (kd x) (ar x) = true ∧ (kd x).size ≤ 6 ∧ (ar x).size ≤ 71 := by
  by_cases hsp : (32 : UInt8) ∈ x.data.toList
  · obtain ⟨a, b, hab, ha⟩ := mem_first hsp
    obtain ⟨e1, e2⟩ := kdar hab ha
    rw [sg_yes hab ha] at h
    rw [e1, e2]
    exact ⟨h, (gd_short _ _ h).1, (gd_short _ _ h).2⟩
  · rw [sg_no hsp] at h; cases h
/-- A component turned. -/
def tnp (p : ByteArray × ByteArray) : ByteArray × ByteArray := (p.1, tnd p.1 p.2)
theorem tx_tnp (x : ByteArray) : tx (tnp (kar x)) = trn x := rfl
theorem trn_short {x : ByteArray} (h : sgB x = true) : (trn x).size ≤ 80 := by
  obtain ⟨h1, h2, h3⟩ := sg_kar h
  have := tnd_short h1
  unfold trn
  rw [ByteArray.size_append, ByteArray.size_append]
  show _ + 1 + _ ≤ 80
  omega
/-- What TurnPosition answers. -/
noncomputable def tpS (s : ByteArray) : ByteArray := if posB s = true then jnB ((posL s).map trn) else ⟨#[]⟩

set_option maxHeartbeats 1600000 in
theorem turnPosS_any (s : ByteArray) (w : World) (hs : s.size ≤ 1048576) :
    Calls Tryd.prog 7 #[.string s] w fun e w' => e = .returned (.tuple #[.string (tpS s), .bool (posB s)]) ∧ Below w.heap.size w w' := by
  have HS := Lib.hid (singlesS_any s w hs)
  obtain ⟨y, hy⟩ : ∃ y, y = tpS s := ⟨_, rfl⟩
  rw [← hy]
  cases hp : posB s
  · have HY : Hid (y = ⟨#[]⟩) := Lib.hid (by rw [hy]; unfold tpS; rw [hp]; rfl)
    rw [hp] at HS
    rw [HY.out]
    clear hy hp HY
    go_enter Tryd.func7, Tryd.ntmps7
    go_wp2_with (go_at_call 9; (with_reducible refine HS.out.mono ?_); rintro e w1 ⟨A, c, rfl, ho, hb1⟩)
    go_ret2
    exact ⟨rfl, hb1⟩
  · have HY : Hid (y = jnB ((posL s).map trn)) := Lib.hid (by rw [hy]; unfold tpS; rw [if_pos hp])
    obtain ⟨hl6, hall⟩ := pos_all hp
    rw [hp] at HS
    obtain ⟨l, hl⟩ : ∃ l, l = posL s := ⟨_, rfl⟩
    rw [← hl] at HS HY hl6 hall
    have HALL := Lib.hid hall
    clear hy hp hl hall
    go_enter Tryd.func7, Tryd.ntmps7
    go_wp2_with (go_at_call 9; (with_reducible refine HS.out.mono ?_); rintro e w1 ⟨A, c, rfl, ho, hb1⟩)
    have HR := Lib.hid ho.rd
    have HE := Lib.hid (Own.empty w1 9 9 w1.heap.size (Nat.le_refl _))
    have hz1 := hb1.size
    have HZ := Lib.hid (bel1 w1 (.cells #[] 9))
    clear ho HS
    generalize w1.alloc (.cells #[] 9) = V at *
    go_loopw [6, 7] (fun x i wr => ∃ (k : Nat) (A' : Option Addr) (c' : Nat) (os : List ByteArray), i = .int .i64 k ∧ k ≤ l.length ∧ Hid (os = (l.take k).map trn) ∧ os.length ≤ 6 ∧ x = .slice A' os.length c' ∧ Own wr w1.heap.size 9 (.slice A' os.length c') (scells os) ∧ Below w1.heap.size w1 wr) (fun _ i _ => l.length - (intOf i).toNat)
    case atStart => exact ⟨0, _, _, [], rfl, Nat.zero_le _, Lib.hid rfl, by simp, rfl, HE.out, HZ.out⟩
    case round =>
      clear HE HZ
      obtain ⟨k, A', c', os, rfl, hk, HOS, ho6, rfl, ho, hb⟩ := hrel
      have HO := Lib.hid ho
      clear ho
      have hzr := hb.size
      by_cases hlt : k < l.length
      · have hk6 : os.length + 1 ≤ 6 := by have := congrArg List.length HOS.out; rw [List.length_map, List.length_take] at this; omega
        obtain ⟨b, o, rfl, hbB, hcc⟩ := (HR.out.below hb (Nat.le_refl _)).at (j := k) (by simpa [scells] using hlt)
        have hck := hcc k (.string (gs l k)) (gs_at l k hlt)
        clear hcc
        obtain ⟨g1, g2⟩ := HALL.out (gs l k) (gs_mem hlt)
        have HOS2 : Hid (os ++ [trn (gs l k)] = (l.take (k + 1)).map trn) := Lib.hid (by rw [List.take_succ_eq_append_getElem hlt, List.map_append, HOS.out, gs_lt hlt]; rfl)
        have HTX := Lib.hid fun W => turnSingle_any (gs l k) W (by omega) g1
        obtain ⟨x, hx⟩ : ∃ x, x = trn (gs l k) := ⟨_, rfl⟩
        rw [← hx] at HTX HOS2
        clear hx HOS g1 g2
        go_wp2_with (first | (go_at_call 11; (with_reducible refine (HTX.out _).mono ?_); rintro e w2 ⟨rfl, hb2⟩; have hz2 := hb2.size) | (at_builtin; refine append_str rfl _ _ rfl w1.heap.size _ os rfl (HO.out.below (gtr hb2 (bel1 _ _))) _ x rfl ((Blk.new _ _ _).cell 0) (by omega) (by simp; omega) ?_; intro A5 c5 w5 ho5 hb5 hg5))
        have HO5 := Lib.hid ho5; clear ho5
        go_roundw
        case rel => exact ⟨k + 1, A5, c5, os ++ [x], by go_num, by omega, HOS2, by rw [List.length_append, List.length_singleton]; omega, by rw [List.length_append]; rfl, by rw [List.length_append]; exact HO5.out, (hb.trans (hb2.mono hzr)).trans (((bel1 _ _).mono (by omega)).trans hb5)⟩
        case measure => simp [intOf]; omega
      · obtain rfl : k = l.length := by omega
        have hos : os = l.map trn := by have := HOS.out; rw [List.take_length] at this; exact this
        have hsz : ∀ j, j < os.length → (gs os j).size ≤ 80 := fun j hj => by
          have hj2 : j < l.length := by rw [hos, List.length_map] at hj; exact hj
          have : gs os j = trn l[j] := by rw [hos]; simp [gs, hj2]
          rw [this]
          exact trn_short (HALL.out _ (List.getElem_mem hj2)).1
        have HJ := Lib.hid (joinS_any A' c' os wr wr.heap.size (Nat.le_refl _) HO.out.rd ho6 (Lib.hid hsz))
        rw [hos, ← HY.out, ← hos] at HJ
        clear hos hsz HOS HO HALL HR
        go_wp2_with (go_at_call 12; (with_reducible refine HJ.out.mono ?_); rintro e w2 ⟨rfl, hb2⟩)
        go_ret2
        exact ⟨rfl, gtr hb1 (gtr hb hb2)⟩

/-- The first k components turned. -/
def mixT (l : List (ByteArray × ByteArray)) (k : Nat) : List (ByteArray × ByteArray) := (l.take k).map tnp ++ l.drop k
theorem mixT_len (l : List (ByteArray × ByteArray)) (k : Nat) : (mixT l k).length = l.length := by unfold mixT; rw [List.length_append, List.length_map, List.length_take, List.length_drop]; omega
theorem mixT_at (l : List (ByteArray × ByteArray)) (k : Nat) (h : k < l.length) : (mixT l k)[k]'(by rw [mixT_len]; exact h) = l[k] := by
  have hl : ((l.take k).map tnp).length = k := by rw [List.length_map, List.length_take]; omega
  have e : (mixT l k)[k]? = some l[k] := by unfold mixT; rw [List.getElem?_append_right (by omega), hl, Nat.sub_self, List.getElem?_drop, Nat.add_zero, List.getElem?_eq_getElem h]
  exact (List.getElem?_eq_some_iff.1 e).2
theorem mixT_set (l : List (ByteArray × ByteArray)) (k : Nat) (h : k < l.length) : (mixT l k).set k (tnp l[k]) = mixT l (k + 1) := by
  have hl : ((l.take k).map tnp).length = k := by rw [List.length_map, List.length_take]; omega
  have ht : l.take (k + 1) = l.take k ++ [l[k]] := List.take_succ_eq_append_getElem h
  rw [mixT, List.set_append_right _ _ (by omega), hl, Nat.sub_self, List.drop_eq_getElem_cons h, List.set_cons_zero, mixT, ht, List.map_append]
  simp
theorem mixT_all (l : List (ByteArray × ByteArray)) : mixT l l.length = l.map tnp := by simp [mixT]
theorem cc_set (l : List (ByteArray × ByteArray)) (k : Nat) (h : k < l.length) (p : ByteArray × ByteArray) : ((cc l).set (k * 2) (.string p.1)).set (k * 2 + 1) (.string p.2) = cc (l.set k p) := by
  induction l generalizing k with
  | nil => simp at h
  | cons q r ih =>
    cases k with
    | zero => rfl
    | succ k =>
      have h' : k < r.length := by simpa using h
      rw [show (k + 1) * 2 = k * 2 + 1 + 1 by omega]
      show _ :: _ :: _ = _ :: _ :: cc (r.set k p)
      rw [← ih k h']

set_option maxHeartbeats 1600000 in
theorem turnPosI_any (s : ByteArray) (m : Int) (w : World) (hs : s.size ≤ 1048576) (hm : w.cell? ⟨Tryd.lays146_ren.g 1, 0, none⟩ = some (.int .i64 m)) :
    Calls Tryd.prog 8 #[.string s] w fun e w' => e = .returned (.tuple #[.string (tpS s), .bool (posB s)]) ∧ Below w.heap.size w w' := by
  have HS := Lib.hid (comps_any s m w hs hm)
  clear hm
  obtain ⟨y, hy⟩ : ∃ y, y = tpS s := ⟨_, rfl⟩
  rw [← hy]
  cases hp : posB s
  · have HY : Hid (y = ⟨#[]⟩) := Lib.hid (by rw [hy]; unfold tpS; rw [hp]; rfl)
    rw [hp] at HS
    rw [HY.out]
    clear hy hp HY
    go_enter Tryd.func8, Tryd.ntmps8
    go_wp2_with (go_at_call 10; (with_reducible refine HS.out.mono ?_); rintro e w1 ⟨A, c, rfl, ho, hb1⟩)
    go_ret2
    exact ⟨rfl, hb1⟩
  · have HY : Hid (y = jnB ((posL s).map trn)) := Lib.hid (by rw [hy]; unfold tpS; rw [if_pos hp])
    obtain ⟨hl6, hall⟩ := pos_all hp
    rw [hp] at HS
    have HALL : Hid (∀ p, p ∈ (posL s).map kar → gdB p.1 p.2 = true ∧ p.1.size ≤ 6 ∧ p.2.size ≤ 71) := Lib.hid fun p hp => by
      obtain ⟨x, hx, rfl⟩ := List.mem_map.1 hp
      exact sg_kar (hall x hx).1
    have HM : Hid (y = jnB (((posL s).map kar).map tnp |>.map tx)) := Lib.hid (by rw [HY.out, List.map_map, List.map_map]; rfl)
    obtain ⟨n, hn⟩ : ∃ n, n = (posL s).length := ⟨_, rfl⟩
    rw [← hn] at HS hl6
    obtain ⟨l, hl⟩ : ∃ l, l = (posL s).map kar := ⟨_, rfl⟩
    have hnl : n = l.length := by rw [hl, List.length_map, hn]
    rw [← hl] at HS HM HALL
    subst hnl
    clear hy hp hl hall HY hn
    go_enter Tryd.func8, Tryd.ntmps8
    go_wp2_with (go_at_call 10; (with_reducible refine HS.out.mono ?_); rintro e w1 ⟨A, c, rfl, ho, hb1⟩)
    have HO := Lib.hid ho
    clear ho HS
    have hz1 := hb1.size
    go_loopw [17] (fun i wr => ∃ (k : Nat), i = .int .i64 k ∧ k ≤ l.length ∧ wr.ownsRow w.heap.size 34 2 (.slice A l.length c) l.length (cc (mixT l k)) ∧ Below w.heap.size w wr) (fun i _ => l.length - (intOf i).toNat)
    case atStart => exact ⟨0, rfl, Nat.zero_le _, HO.out, hb1⟩
    case round =>
      clear HO
      obtain ⟨k, rfl, hk, ho, hb⟩ := hrel
      by_cases hlt : k < l.length
      · obtain ⟨g, rfl, hBg, hgw, hnc, hcell, hfr⟩ := ownsK_at ho (by omega)
        have hlm : k < (mixT l k).length := by rw [mixT_len]; exact hlt
        obtain ⟨c0, c1⟩ := cc_get (mixT l k) k hlm
        rw [mixT_at l k hlt] at c0 c1
        have q0 : wr.cell? ⟨g, k * 2, none⟩ = some (.string (l[k]).1) := (hcell _ (by omega)).trans c0
        have q1 : wr.cell? ⟨g, k * 2 + 1, none⟩ = some (.string (l[k]).2) := (hcell _ (by omega)).trans c1
        obtain ⟨z0, z1, z2⟩ := HALL.out l[k] (List.getElem_mem hlt)
        have HTN := Lib.hid fun W => turned_any (l[k]).1 (l[k]).2 W z0 (by omega)
        have HST := Lib.hid fun (W : World) (h : W.ownsRow w.heap.size 34 2 (.slice (some ⟨g, 0, none⟩) l.length c) l.length (cc (mixT l k))) => (by
          have h2 := ((h.stored (k * 2) (.string (tnp l[k]).1)).1.stored (k * 2 + 1) (.string (tnp l[k]).2)).1
          rw [cc_set _ _ hlm, mixT_set l k hlt] at h2
          exact h2 : ((W.setCell ⟨g, k * 2, none⟩ (.string (l[k]).1)).setCell ⟨g, k * 2 + 1, none⟩ (.string (tnd (l[k]).1 (l[k]).2))).ownsRow w.heap.size 34 2 (.slice (some ⟨g, 0, none⟩) l.length c) l.length (cc (mixT l (k + 1))))
        have HO := Lib.hid ho
        obtain ⟨x, hx⟩ : ∃ x, x = tnd (l[k]).1 (l[k]).2 := ⟨_, rfl⟩
        rw [← hx] at HTN HST
        obtain ⟨a, ha⟩ : ∃ a, a = (l[k]).1 := ⟨_, rfl⟩
        obtain ⟨t, ht⟩ : ∃ t, t = (l[k]).2 := ⟨_, rfl⟩
        rw [← ha] at q0 HTN z1 HST
        rw [← ht] at q1 HTN z2
        clear hx ha ht c0 c1 hcell hfr ho z0
        have hzr := hb.size
        go_wp2_with fail
        ((with_reducible refine (HTN.out _).mono ?_); rintro e w2 ⟨rfl, hb2⟩)
        have g2 : Below wr.heap.size wr w2 := gtr (bel1 _ _) hb2
        have hz2 := g2.size
        have o2 := ownsK_below HO.out g2
        have q02 : w2.cell? ⟨g, k * 2, none⟩ = some (.string a) := (g2.cell (p := ⟨g, k * 2, none⟩) hgw).trans q0
        have q12 : w2.cell? ⟨g, k * 2 + 1, none⟩ = some (.string t) := (g2.cell (p := ⟨g, k * 2 + 1, none⟩) hgw).trans q1
        have f02 : w2.frozen? ⟨g, k * 2, none⟩ = false := o2.frozenAt _
        have f12 : w2.frozen? ⟨g, k * 2 + 1, none⟩ = false := o2.frozenAt _
        have HO2 := Lib.hid (HST.out w2 o2)
        have HB2 := Lib.hid (gtr hb g2)
        clear o2 q0 q1 HO HST HTN hb2 g2
        go_wp2
        go_roundw
        case rel => exact ⟨k + 1, by go_num, by omega, HO2.out, (HB2.out.setCell (by show w.heap.size ≤ g; omega) _).setCell (by show w.heap.size ≤ g; omega) _⟩
        case measure => simp [intOf]; omega
      · obtain rfl : k = l.length := by omega
        rw [mixT_all] at ho
        have HJ := Lib.hid (joinI_any A c (l.map tnp) wr w.heap.size (by rw [List.length_map]; exact ho) (by rw [List.length_map]; exact hl6) (Lib.hid fun p hp => by
          obtain ⟨x, hx, rfl⟩ := List.mem_map.1 hp
          obtain ⟨z0, z1, z2⟩ := HALL.out x hx
          have := tnd_short z0
          exact ⟨z1, by show (tnd x.1 x.2).size ≤ 73; omega⟩))
        rw [← HM.out, List.length_map] at HJ
        clear ho HALL
        go_wp2_with (go_at_call 14; (with_reducible refine HJ.out.mono ?_); rintro e w2 ⟨rfl, hb2⟩)
        go_ret2
        exact ⟨rfl, gtr hb hb2⟩

set_option maxHeartbeats 800000 in
theorem lawTurnPosition (s : ByteArray) (w : World) (m : Int) (hm : w.cell? ⟨Tryd.lays146_ren.g 1, 0, none⟩ = some (.int .i64 m)) (hs : s.size ≤ maxLen) :
    Calls Tryd.prog 4 #[.string s] w fun e w' => e = .returned (.bool true) ∧ Below w.heap.size w w' := by
  have hg := World.block_lt_of_cell? _ _ hm
  by_cases hbig : 1048576 < s.size
  · have hbI : (1048576 : Int) < (s.size : Int) := by omega
    clear hm hg
    go_enter Tryd.func4, Tryd.ntmps4
    go_wp2
    go_ret
    exact ⟨rfl, Below.refl _ _⟩
  · have hbI : ¬ (1048576 : Int) < (s.size : Int) := by omega
    have HS := Lib.hid fun W => turnPosS_any s W (by omega)
    have HI := Lib.hid fun W => turnPosI_any s m W (by omega)
    have HM := Lib.hid fun (W : World) (hb : Below w.heap.size w W) => (Below.cell hb (p := ⟨Tryd.lays146_ren.g 1, 0, none⟩) hg).trans hm
    clear hm hg
    obtain ⟨b, hb⟩ : ∃ b, b = posB s := ⟨_, rfl⟩
    obtain ⟨y, hy⟩ : ∃ y, y = tpS s := ⟨_, rfl⟩
    rw [← hb, ← hy] at HS HI
    clear hb hy
    go_enter Tryd.func4, Tryd.ntmps4
    cases b
    all_goals
      go_wp2_with (first | (go_at_call 7; (with_reducible refine (HS.out _).mono ?_); rintro e w1 ⟨rfl, hb1⟩) | (go_at_call 8; (with_reducible refine (HI.out _ (HM.out _ hb1)).mono ?_); rintro e w2 ⟨rfl, hb2⟩))
      go_ret
      exact ⟨rfl, gtr hb1 hb2⟩
end Go.Proofs.YtpepkpikeggceaaDoor
