/- The draw of a tree and a player. Conditions: none. -/
import Derived.Test.YtbhficohgdlojaaDoorDrawT
namespace Go.Proofs.YtbhficohgdlojaaDoor
open Go.RowKit
set_option linter.unusedVariables false

/-- A new tree, and a player. -/
def NewTr (w : World) (e : Ending) (w' : World) : Prop := ∃ (A : Option Addr) (c : Nat) (xs : List Int) (s : ByteArray) (b : Bool), e = .returned (.tuple #[.agg #[.slice A xs.length c, .string s], .bool b]) ∧ OwnI w' w.heap.size (.slice A xs.length c) xs ∧ s.size ≤ 1000 ∧ Below w.heap.size w w'
set_option maxHeartbeats 1600000 in
theorem drawTreeCuts_any (A : Option Addr) (c : Nat) (bs : List Int) (w : World) (h : RdY w A c bs) :
    Calls Tryd.prog 10 #[.slice A bs.length c] w (NewTr w) := by
  go_enter Tryd.func10, Tryd.ntmps10
  go_wp2_with fail
  have hR := Blk.new w 26 #[.slice none 0 0, .string ⟨#[]⟩]
  have hb0 := bel1 w (.cells #[.slice none 0 0, .string ⟨#[]⟩] 26)
  have h1 := h.below hb0
  have hzV : (w.alloc (.cells #[.slice none 0 0, .string ⟨#[]⟩] 26)).heap.size = w.heap.size + 1 := by simp
  generalize w.alloc (.cells #[.slice none 0 0, .string ⟨#[]⟩] 26) = V at *
  obtain ⟨g, hge⟩ : ∃ g, g = w.heap.size + 1 := ⟨_, rfl⟩
  rw [← hge] at hzV ⊢
  have hgw : w.heap.size < g := by omega
  have hc := Cur.new h1
  have hbW := bel1 V (.cells #[.slice A bs.length c, .int .i64 0, .int .u64 0] 57)
  have hR1 := hR.below hbW (by omega)
  have hlW : V.heap.size < (V.alloc (.cells #[.slice A bs.length c, .int .i64 0, .int .u64 0] 57)).heap.size := by simp
  generalize V.alloc (.cells #[.slice A bs.length c, .int .i64 0, .int .u64 0] 57) = W at *
  have hbA := hb0.trans (hbW.mono (by omega))
  rw [hzV] at hc hlW
  clear hge hzV
  ((with_reducible refine (drawTree_any _ _ _ _ 8 hc (by omega) (by decide) (by decide)).mono ?_); rintro e w1 ⟨A1, c1, xs, s, rfl, ho1, hs, hc1, hg1⟩)
  have hR2 := hR1.gb hg1 (by omega) (by omega)
  have hb1 : Below w.heap.size w w1 := hbA.trans ((hg1.mono (show w.heap.size ≤ W.heap.size by omega)).below (by omega))
  have hz1 := hg1.size
  clear hR hb0 h h1 hc hbW hR1 hbA hg1
  have hT := Blk.new w1 26 #[.slice A1 xs.length c1, .string s]
  have hbT := bel1 w1 (.cells #[.slice A1 xs.length c1, .string s] 26)
  have hR3 := hR2.below hbT hR2.lt
  have ho2 := ho1.below hbT
  have hc2 := hc1.below hbT
  have hb2 := hb1.trans (hbT.mono hb1.size)
  go_wp2_with fail
  obtain ⟨P, hP⟩ : ∃ P, P = w1.heap.size := ⟨_, rfl⟩
  rw [← hP] at hT ⊢
  generalize w1.alloc (.cells #[.slice A1 xs.length c1, .string s] 26) = X at *
  have hgP : g < P := by omega
  clear hbT hR2 ho1 hc1 hb1
  have q0 : X.cell? ⟨P, 0, none⟩ = some (.slice A1 xs.length c1) := hT.cell 0
  have q1 : X.cell? ⟨P, 1, none⟩ = some (.string s) := hT.cell 1
  have hnP : ¬ w.heap.size = P := by omega
  have hWg : g < W.heap.size := hlW
  have hcd : Cur X.drew g g 2000 := hc2.more (by omega)
  have hTl := hT.lt
  clear hP
  have hRl := hR3.lt
  go_region_held3 (fun w' => w'.cell? ⟨P, 0, none⟩ = some (.slice A1 xs.length c1) ∧ w'.cell? ⟨P, 1, none⟩ = some (.string s)) (go_keep) ((go_at_call 33; refine (oneI _ _ _ _ _ hcd (by omega) (by decide) (by decide)).mono ?_; rintro e w2 ⟨b, rfl, hc3, hg3⟩; have hT2 := Blk.gb (show Blk X.drew _ _ _ from hT) hg3 (by show P < X.heap.size; omega) (by omega); have hR4 := Blk.gb (show Blk X.drew _ _ _ from hR3) hg3 (by show w.heap.size < X.heap.size; omega) (by omega); have m0 := hT2.cell 0; have m1 := hT2.cell 1; have r0 := hR4.cell 0; have r1 := hR4.cell 1; have rf0 := hR4.frozen 0; have rf1 := hR4.frozen 1))
  have ho3 := Own.gb (show Own X.drew _ _ _ _ from own_ints.1 ho2) (by omega) hg3
  have hb3 : Below w.heap.size w w2 := (hb2.drew).trans ((hg3.mono (by show w.heap.size ≤ X.heap.size; omega)).below (by omega))
  have hF : Blk ((w2.setCell ⟨w.heap.size, 0, none⟩ (.slice A1 xs.length c1)).setCell ⟨w.heap.size, 1, none⟩ (.string s)) w.heap.size 26 #[.slice A1 xs.length c1, .string s] := (hR4.set 0 _).set 1 _
  have f0 := bc0 hF
  have f1 := bc1 hF
  have HO := Lib.hid ho3; have HB := Lib.hid hb3
  clear hT2 hR4 m0 m1 r0 r1 rf0 rf1 hc3 hg3 ho2 hc2 hb2 hT q0 q1 hcd hR3 ho3 hb3 hF
  go_wp2
  refine bodyPost_ret (v := .tuple #[.agg #[.slice A1 xs.length c1, .string s], .bool b]) (by simp only [results, Tryd.results10]; simp [go_sem, f0, f1]) rfl ⟨A1, c1, xs, s, b, rfl, ?_, hs, (HB.out.setCell (Nat.le_refl _) _).setCell (Nat.le_refl _) _⟩
  refine own_ints.2 (Own.le (Own.far (Own.far HO.out _ _ fun e => ?_) _ _ fun e => ?_) (by omega))
  · have := (HO.out.lt _ e).1; dsimp only at this; omega
  · have := (HO.out.lt _ e).1; dsimp only at this; omega
end Go.Proofs.YtbhficohgdlojaaDoor
