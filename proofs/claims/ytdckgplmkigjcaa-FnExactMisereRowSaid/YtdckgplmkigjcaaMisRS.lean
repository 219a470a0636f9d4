/- MisereRow of the reference; both by contracts at every argument. Conditions: none. -/
import Derived.Test.YtdckgplmkigjcaaMisR
import Derived.Test.YtdckgplmkigjcaaRow1
namespace Go.Proofs.Ytdckgplmkigjcaa
open Go.RowKit Go.Maps
set_option linter.unusedVariables false

set_option maxRecDepth 100000 in
set_option maxHeartbeats 1600000 in
theorem rowS_loop (A : Option Addr) (c : Nat) (cs : List Int) (n : Nat) (w : World) (B : Nat) (hB : B ≤ w.heap.size) (h : RdI w B A c cs) (hg : goodCodeB cs = true) (hn : n ≤ 20) :
    Calls Try.prog 28 #[.slice A cs.length c, .int .i64 n] w fun e w' => ∃ A' c', e = .returned (.tuple #[.slice A' (n + 1) c', .bool true]) ∧ OwnI w' w.heap.size (.slice A' (n + 1) c') (rowM cs (n + 1)) ∧ Below w.heap.size w w' := by
  have HC := Lib.hid (goodCodeS_any A c cs w B h)
  rw [hg] at HC
  have HG := Lib.hid (goodCodeB_true.1 hg)
  have HH := Lib.hid h
  have hib : inB (n : Int) 0 20 = true := by simp [inB]; omega
  clear hg h
  go_enter Try.func28, Try.ntmps28
  go_wp2_with (first
    | (go_at_call 63; (with_reducible refine (HC.out).mono ?_); rintro e w1 ⟨rfl, rfl⟩)
    | (go_at_call 69; (with_reducible refine (l1In_any _ _ _ _).mono ?_); rintro e w1 ⟨rfl, rfl⟩; rw [hib])
    | (go_at_call 48; (with_reducible refine (new_any A c cs _).mono ?_); rintro e w2 ⟨g, gk, gv, rfl, hl1, hl2, hl3, hM2, hb2⟩))
  have hz2 := hb2.size
  have hbA := bel1 w2 (.cells #[] 3)
  have hM3 := hM2.below hbA
  have hgw := gtr hb2 hbA
  have hlt2 := hM2.lt
  obtain ⟨G, hG⟩ : ∃ G, G = w2.heap.size := ⟨_, rfl⟩
  have hO : Own (w2.alloc (.cells #[] 3)) G 3 (.slice (some ⟨w2.heap.size, 0, none⟩) 0 0) (ints (rowM cs 0)) := Own.empty w2 3 3 G (by omega)
  have hgG : g < G := by omega
  have hkG : gk < G := by omega
  have hvG : gv < G := by omega
  have hwG : w.heap.size ≤ G := by omega
  have hGW : G ≤ (w2.alloc (.cells #[] 3)).heap.size := by simp; omega
  clear hbA hM2 hlt2 hb2
  generalize w2.alloc (.cells #[] 3) = W at *
  rw [← hG] at hO ⊢
  clear hG
  go_loopw [7, 8] (fun v s wr => ∃ (k : Nat) (A1 : Option Addr) (c1 : Nat), s = .int .i64 k ∧ k ≤ n + 1 ∧ v = .slice A1 k c1 ∧ Own wr G 3 (.slice A1 k c1) (ints (rowM cs k)) ∧ (∃ ks vs, BookM wr g gk gv A c cs ks vs) ∧ Below w.heap.size w wr ∧ G ≤ wr.heap.size) (fun _ s _ => n + 1 - (intOf s).toNat)
  case atStart => exact ⟨0, _, _, rfl, by omega, rfl, hO, ⟨_, _, hM3⟩, hgw, hGW⟩
  case round =>
    clear hO hM3 hgw
    obtain ⟨k, A1, c1, rfl, hk, rfl, ho, ⟨ks, vs, hM⟩, hb, hGz⟩ := hrel
    by_cases hlt : k < n + 1
    · have hltI : (k : Int) ≤ (n : Int) := by omega
      have hk20 : k ≤ 20 := by omega
      have HSN := Lib.hid (rowM_succ cs k)
      have hP := hp_one k hk20
      have hzw := hb.size
      have hbA1 := bel1 wr (.cells #[.int .i64 k] 3)
      have hzA : (wr.alloc (.cells #[.int .i64 k] 3)).heap.size = wr.heap.size + 1 := by simp
      have hCA : RdI (wr.alloc (.cells #[.int .i64 k] 3)) (wr.heap.size + 1) (some ⟨wr.heap.size, 0, none⟩) 1 [(k : Int)] := Rd.of_lit (cs := [.int .i64 (k : Int)]) (Blk.new wr 3 _) (by omega) (by simp)
      have hF := sortS_any (some ⟨wr.heap.size, 0, none⟩) 1 [(k : Int)] _ (wr.heap.size + 1) (by rw [hzA]; exact Nat.le_refl _) hCA (by simp)
      rw [show [(k : Int)].length = 1 from rfl, srt_one] at hF
      obtain ⟨q, hq⟩ : ∃ q, q = nz [(k : Int)] := ⟨_, rfl⟩
      rw [← hq] at hF HSN hP
      have HF := Lib.hid hF; have HP := Lib.hid hP
      have HO := Lib.hid ho; have HB := Lib.hid hb; have HBA := Lib.hid hbA1; have HM := Lib.hid hM
      have E8 : Hid ((ints (rowM cs k)).length = k) := Lib.hid (by rw [ints_len, rowM_len])
      have hMl := hM.lt
      clear hF hq hP hCA hbA1 ho hM hb
      go_wp2_with fail
      ((with_reducible refine (HF.out).mono ?_); rintro e w3 ⟨A3, c3, rfl, ho3, hb3⟩)
      have g3 := gtr HBA.out hb3
      have hz3 := hb3.size
      have hv := valS cs HG.out A c B g gk gv (by omega) (by omega) q w3 A3 c3 ks vs HP.out (HM.out.below g3) (HH.out.below (HB.out.trans (g3.mono hzw)) hB) (ho3.rd rfl) (fun a ha => by subst ha; have := (ho3.lt a.block rfl).1; exact ⟨by omega, by omega⟩)
      obtain ⟨u, hu⟩ : ∃ u, u = mz cs q := ⟨_, rfl⟩
      rw [← hu] at hv HSN
      have HV := Lib.hid hv
      clear hv hu
      go_wp2_with fail
      ((with_reducible refine (HV.out).mono ?_); rintro e w4 ⟨rfl, ⟨ks4, vs4, hM4⟩, hT4⟩)
      have hz4 := hT4.size
      have hO4 := (HO.out.below g3).tw hT4 (fun j hj => by have := (HO.out.lt j hj).1; omega)
      have HO4 := Lib.hid hO4; have HM4 := Lib.hid hM4; have HT4 := Lib.hid hT4; have HG3 := Lib.hid g3
      clear hO4 hM4 hT4 g3 hb3 ho3
      go_wp2_with (at_builtin; refine append_one rfl _ _ 22 3 (.int .i64 0) 8 rfl Try.underlying22 infoInt rfl (by omega) G (.slice A1 k c1) (ints (rowM cs k)) rfl (HO4.out.below (bel1 _ _)) w4.heap.size (.int .i64 u) rfl ((Blk.new _ _ _).cell 0) rfl (by rw [E8.out]; omega) (by simp; omega) ?_; intro A5 c5 w5 ho5 hb5 hg5; rw [E8.out] at ho5 ⊢)
      have HO5 := Lib.hid ho5; have HG5 := Lib.hid hg5
      clear ho5 hb5 hg5
      go_roundw
      case rel =>
        have hz5 := HG5.out.size
        simp at hz5
        have hbase : ∀ j, (Value.slice A1 k c1).ownBlock = some j → G ≤ j := fun j hj => (HO4.out.lt j hj).1
        refine ⟨k + 1, A5, c5, by go_num, by omega, rfl, by rw [HSN.out, ints_snoc]; exact HO5.out, ⟨ks4, vs4, (HM4.out.below (bel1 _ _)).grown HG5.out fun j hj => by have := hbase j hj; exact ⟨by omega, by omega, by omega⟩⟩, ?_, by omega⟩
        exact ((Tw.below (HB.out.trans (HG3.out.mono hzw)) HT4.out (by omega) (by omega)).trans ((bel1 w4 _).mono (by omega))).grown HG5.out (by simp; omega) fun j hj => by have := hbase j hj; omega
      case measure => simp [intOf]; omega
    · obtain rfl : k = n + 1 := by omega
      have HO := Lib.hid ho
      clear ho hM
      go_wp2
      go_ret2
      exact ⟨A1, c1, rfl, own_ints.2 (HO.out.le (by omega)), hb⟩
end Go.Proofs.Ytdckgplmkigjcaa
