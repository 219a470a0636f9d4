/- The components of a position: the program's, by contract. Conditions: none. -/
import Derived.Test.YtpepkpikeggceaaDoorWdA
import Derived.Test.YtpepkpikeggceaaDoorPosS
import Derived.Test.YtpepkpikeggceaaDoorCutSp
import Derived.Test.YtpepkpikeggceaaDoorAppK
namespace Go.Proofs.YtpepkpikeggceaaDoor
open Go.RowKit
set_option linter.unusedVariables false

theorem infoComp : (Tryd.prog.info? 34).map (fun i => (i.zero, i.size, i.bytes)) = some (some (.agg #[.string ⟨#[]⟩, .string ⟨#[]⟩]), 2, 32) := by kernel_rfl
/-- What a word says ahead of its first space, and behind it. -/
def kd (x : ByteArray) : ByteArray := str (x.data.toList.takeWhile (· != 32))
def ar (x : ByteArray) : ByteArray := str ((x.data.toList.dropWhile (· != 32)).drop 1)
theorem kdar {x : ByteArray} {a b : List UInt8} (h : x.data.toList = a ++ 32 :: b) (ha : (32 : UInt8) ∉ a) : kd x = str a ∧ ar x = str b := by
  have hp : ∀ c, c ∈ a → (c != 32) = true := fun c hc => by
    rw [bne_iff_ne]
    intro e
    exact ha (e ▸ hc)
  unfold kd ar
  rw [h, List.takeWhile_append_of_pos hp, List.dropWhile_append_of_pos hp]
  simp
/-- The cells of components. -/
def cc : List (ByteArray × ByteArray) → List Value
  | [] => []
  | p :: r => .string p.1 :: .string p.2 :: cc r
theorem cc_len (l : List (ByteArray × ByteArray)) : (cc l).length = l.length * 2 := by
  induction l with
  | nil => rfl
  | cons p r ih => show (cc r).length + 1 + 1 = _; rw [ih, List.length_cons]; omega
theorem cc_snoc (l : List (ByteArray × ByteArray)) (p : ByteArray × ByteArray) : cc (l ++ [p]) = cc l ++ [.string p.1, .string p.2] := by
  induction l with
  | nil => rfl
  | cons q r ih => show _ :: _ :: cc (r ++ [p]) = _; rw [ih]; rfl
def kar (x : ByteArray) : ByteArray × ByteArray := (kd x, ar x)
theorem take_kar (ws : List ByteArray) (k : Nat) (h : k < ws.length) : (ws.take (k + 1)).map kar = (ws.take k).map kar ++ [kar (gs ws k)] := by
  rw [List.take_succ_eq_append_getElem h, List.map_append]
  simp [gs, h]
theorem WD.small {s : ByteArray} : ∀ {f : Nat} {ws : List ByteArray}, WD s f ws → ∀ x, x ∈ ws → x.size ≤ s.size := by
  intro f ws h
  induction h with
  | last f hf h =>
    intro x hx
    rw [List.mem_singleton.1 hx, ByteArray.size_extract]
    omega
  | more f i ws hf hi h ha hw ih =>
    intro x hx
    rcases List.mem_cons.1 hx with rfl | hx
    · rw [ByteArray.size_extract]; omega
    · exact ih x hx
theorem gs_mem {ws : List ByteArray} {k : Nat} (h : k < ws.length) : gs ws k ∈ ws := by
  have : gs ws k = ws[k] := by simp [gs, h]
  rw [this]
  exact List.getElem_mem h
theorem words_small (s : ByteArray) (k : Nat) (h : k < (words s).length) : (gs (words s) k).size ≤ s.size := (words_at s).small _ (gs_mem h)

set_option maxHeartbeats 3200000 in
theorem comps_any (s : ByteArray) (m : Int) (w : World) (hs : s.size ≤ 1048576) (hm : w.cell? ⟨Tryd.lays146_ren.g 1, 0, none⟩ = some (.int .i64 m)) :
    Calls Tryd.prog 10 #[.string s] w fun e w' => ∃ A c', e = .returned (.tuple #[.slice A (posL s).length c', .bool (posB s)]) ∧ w'.ownsRow w.heap.size 34 2 (.slice A (posL s).length c') (posL s).length (cc ((posL s).map kar)) ∧ Below w.heap.size w w' := by
  have hnil : ∀ (W : World), W.ownsRow w.heap.size 34 2 (.slice none 0 0) 0 (cc (([] : List ByteArray).map kar)) := fun W => ⟨rfl, Or.inl ⟨rfl, rfl⟩⟩
  have HNIL := Lib.hid hnil
  clear hnil
  cases hn : (s.toList == [110, 111, 110, 101])
  · have hn1 : (s.toList == noneL) = false := hn
    by_cases hbig : 600 < s.size
    · have HPP := Lib.hid (pos_long hbig)
      have hbI : (600 : Int) < (s.size : Int) := by omega
      clear hn1 hm
      go_enter Tryd.func10, Tryd.ntmps10
      go_wp2
      go_ret2
      rw [HPP.out.1, HPP.out.2]
      exact ⟨none, 0, rfl, HNIL.out _, Below.refl _ _⟩
    · have hbI : ¬ (600 : Int) < (s.size : Int) := by omega
      have HW := Lib.hid (splitW_any s m w (by omega) hm)
      have HSM := Lib.hid (words_small s)
      have HBAD := Lib.hid fun x (hx : x ∈ words s) (hg : sgB x = false) => pos_bad hn1 hx hg
      have HMANY := Lib.hid fun (hx : 7 ≤ (words s).length) => pos_many hn1 hx
      have HGOOD := Lib.hid fun (hx : (words s).length ≤ 6) (hg : ∀ x, x ∈ words s → sgB x = true) => pos_good hn1 hx hg
      clear hn1 hm
      obtain ⟨ws, hws⟩ : ∃ ws, ws = words s := ⟨_, rfl⟩
      rw [← hws] at HW HSM HBAD HMANY HGOOD
      clear hws
      by_cases h6 : ws.length ≤ 6
      · have h6I : ¬ (6 : Int) < (ws.length : Int) := by omega
        clear HMANY
        go_enter Tryd.func10, Tryd.ntmps10
        go_wp2_with (go_at_call 16; (with_reducible refine HW.out.mono ?_); rintro e w1 ⟨A, c, rfl, ho, hb1⟩)
        have HR := Lib.hid ho.rd
        have HE := Lib.hid (ownsK_empty w1 34 2 w1.heap.size (Nat.le_refl _))
        have hz1 := hb1.size
        have HZ := Lib.hid (bel1 w1 (.cells #[] 34))
        clear ho HW
        generalize w1.alloc (.cells #[] 34) = V at *
        go_loopw [5, 25] (fun x i wr => ∃ (k : Nat) (A' : Option Addr) (c' : Nat), i = .int .i64 k ∧ k ≤ ws.length ∧ (∀ j, j < k → sgB (gs ws j) = true) ∧ x = .slice A' k c' ∧ wr.ownsRow w1.heap.size 34 2 (.slice A' k c') k (cc ((ws.take k).map kar)) ∧ Below w1.heap.size w1 wr) (fun _ i _ => ws.length - (intOf i).toNat)
        case atStart => exact ⟨0, _, _, rfl, Nat.zero_le _, fun j hj => absurd hj (Nat.not_lt_zero _), rfl, HE.out, HZ.out⟩
        case round =>
          obtain ⟨k, A', c', rfl, hk, hgd, rfl, ho, hb⟩ := hrel
          have HO := Lib.hid ho
          have HGD := Lib.hid hgd
          clear ho hgd
          have hzr := hb.size
          by_cases hlt : k < ws.length
          · obtain ⟨b, o, rfl, hbB, hcc⟩ := (HR.out.below hb (Nat.le_refl _)).at (j := k) (by simpa [scells] using hlt)
            have hck := hcc k (.string (gs ws k)) (gs_at ws k hlt)
            clear hcc
            have HTK := Lib.hid (take_kar ws k hlt)
            have hsm := HSM.out k hlt
            have HX := Lib.hid fun hg => HBAD.out (gs ws k) (gs_mem hlt) hg
            have HST := Lib.hid fun (hg : sgB (gs ws k) = true) => show ∀ j, j < k + 1 → sgB (gs ws j) = true from fun j hj => if e : j = k then e ▸ hg else HGD.out j (by omega)
            obtain ⟨x, hx⟩ : ∃ x, x = gs ws k := ⟨_, rfl⟩
            rw [← hx] at hck HTK hsm HX HST
            clear hx HGD
            have hltI : (k : Int) < (ws.length : Int) := by omega
            by_cases hsp : (32 : UInt8) ∈ x.data.toList
            · obtain ⟨a, r, hax, ha⟩ := mem_first hsp
              have HCT := Lib.hid fun W => cutsp_yes x a r W hax ha (by omega)
              have hsg := sg_yes hax ha
              have HKA := Lib.hid (show kar x = (str a, str r) from by unfold kar; rw [(kdar hax ha).1, (kdar hax ha).2])
              have hrs : (str r).size ≤ x.size := by
                have h1 := data_len x
                have h2 := data_len (str r)
                rw [hax, List.length_append, List.length_cons] at h1
                have h3 : (str r).data.toList = r := rfl
                rw [h3] at h2
                omega
              have HGG := Lib.hid fun W => good_any (str a) (str r) W (by omega)
              rw [← hsg] at HGG
              clear hsg hax ha hsp
              obtain ⟨u, hu⟩ : ∃ u, u = str a := ⟨_, rfl⟩
              obtain ⟨v, hv⟩ : ∃ v, v = str r := ⟨_, rfl⟩
              rw [← hu, ← hv] at HCT HKA HGG
              rw [← hv] at hrs
              clear hu hv
              cases hg : sgB x
              · have HPP := Lib.hid (HX.out hg)
                rw [hg] at HGG
                clear hg HX HST HBAD HGOOD
                go_wp2_with (first | (go_at_call 17; (with_reducible refine (HCT.out _).mono ?_); rintro e w2 ⟨rfl, hb2⟩) | (go_at_call 18; (with_reducible refine (HGG.out _).mono ?_); rintro e w3 ⟨rfl, hb3⟩))
                go_ret2
                rw [HPP.out.1, HPP.out.2]
                exact ⟨none, 0, rfl, HNIL.out _, gtr hb1 (gtr hb (gtr hb2 (gtr (bel1 _ _) hb3)))⟩
              · have HN := Lib.hid (HST.out hg)
                rw [hg] at HGG
                rw [HKA.out] at HTK
                clear hg HX HST HBAD HGOOD
                go_wp2_with (first | (go_at_call 17; (with_reducible refine (HCT.out _).mono ?_); rintro e w2 ⟨rfl, hb2⟩) | (go_at_call 18; (with_reducible refine (HGG.out _).mono ?_); rintro e w3 ⟨rfl, hb3⟩; have i3 := (Blk.new w2 34 #[.string u, .string v]).below hb3 (by simp); have d0 : w3.cell? ⟨w2.heap.size, 0, none⟩ = some (.string u) := i3.cell 0; have d1 : w3.cell? ⟨w2.heap.size, 1, none⟩ = some (.string v) := i3.cell 1; have g3 : Below wr.heap.size wr w3 := gtr hb2 (gtr (bel1 _ _) hb3); have hz3 := g3.size) | (at_builtin; refine append_k_at rfl _ _ 28 34 (.agg #[.string ⟨#[]⟩, .string ⟨#[]⟩]) 2 32 rfl Tryd.underlying28 infoComp rfl (by omega) (by omega) w1.heap.size (.slice A' k c') k (cc ((ws.take k).map kar)) rfl (ownsK_below HO.out (gtr g3 (bel1 _ _))) _ #[.string u, .string v] rfl (Blk.new_at _ _ _ (by simp)) rfl (fun u hu => by simp at hu; rcases hu with rfl | rfl <;> rfl) (by omega) (by simp; omega) ?_; intro A5 c5 w5 ho5 hb5 hg5 hp5))
                have HO5 := Lib.hid ho5
                clear ho5 hg5 hp5
                go_roundw
                case rel => exact ⟨k + 1, A5, c5, by go_num, by omega, HN.out, rfl, by rw [HTK.out, cc_snoc]; exact HO5.out, (hb.trans (g3.mono hzr)).trans (((bel1 _ _).mono (by omega)).trans hb5)⟩
                case measure => simp [intOf]; omega
            · have HCT := Lib.hid fun W => cutsp_no x W hsp
              have HPP := Lib.hid (HX.out (sg_no hsp))
              clear HX HST HBAD HGOOD hsp
              go_wp2_with (first | (go_at_call 17; (with_reducible refine (HCT.out _).mono ?_); rintro e w2 ⟨rfl, hb2⟩))
              go_ret2
              rw [HPP.out.1, HPP.out.2]
              exact ⟨none, 0, rfl, HNIL.out _, gtr hb1 (gtr hb (gtr hb2 (bel1 _ _)))⟩
          · obtain rfl : k = ws.length := by omega
            have HPP := Lib.hid (HGOOD.out h6 fun y hy => by
              obtain ⟨j, hj, rfl⟩ := List.mem_iff_getElem.1 hy
              have := HGD.out j hj
              have e : gs ws j = ws[j] := by simp [gs, hj]
              rw [e] at this
              exact this)
            clear HGOOD HBAD HSM HGD
            go_wp2
            go_ret2
            rw [HPP.out.1, HPP.out.2]
            have h := HO.out
            rw [List.take_length] at h
            exact ⟨A', c', rfl, ownsK_le h (by omega), gtr hb1 hb⟩
      · have h6I : (6 : Int) < (ws.length : Int) := by omega
        have HPP := Lib.hid (HMANY.out (by omega))
        clear HMANY HGOOD HBAD
        go_enter Tryd.func10, Tryd.ntmps10
        go_wp2_with (go_at_call 16; (with_reducible refine HW.out.mono ?_); rintro e w1 ⟨A, c, rfl, ho, hb1⟩)
        go_ret2
        rw [HPP.out.1, HPP.out.2]
        exact ⟨none, 0, rfl, HNIL.out _, hb1⟩
  · have h1 : (s.toList == noneL) = true := hn
    have HP : Hid (posL s = []) := Lib.hid (by unfold posL; rw [if_pos h1])
    have HP2 : Hid (posB s = true) := Lib.hid (by unfold posB; rw [h1]; rfl)
    clear h1 hm
    go_enter Tryd.func10, Tryd.ntmps10
    go_wp2
    go_ret2
    rw [HP.out, HP2.out]
    exact ⟨none, 0, rfl, HNIL.out _, Below.refl _ _⟩
end Go.Proofs.YtpepkpikeggceaaDoor
