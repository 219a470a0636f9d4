/- FnExactReadPeriod returns true: the walk. Conditions: none. -/
import Derived.Test.YtfafnjlembbemaaDoorRp1
import Derived.Test.YtfafnjlembbemaaDoorRows
import Derived.Deep.RegionHeld3
import Derived.LaidSub
import Derived.Lib.LaidTab
import Derived.LaidMore
import Derived.SevenTiedAt
import Derived.Stop.LaidErr
namespace Go.Proofs.YtfafnjlembbemaaDoor
open Go.RowKit
set_option linter.unusedVariables false

/-- The table out of a row's condition. -/
theorem tab_of {w : World} {l : List (String × DataW Unit)} (h : laidMet Tryd.prog l w) (hf : l.filter (fun x => x.1 == "internal/strconv.uint64pow10") = [("internal/strconv.uint64pow10", Lib.tabData .u64 Lib.pow10Tab)]) : TabI w := by
  have h2 := h.filter (fun x => x.1 == "internal/strconv.uint64pow10")
  rw [hf] at h2
  exact Lib.tabIs_of_head (g := 3) (t := 182) (e := 58) (n := 20) (by kernel_rfl) (by kernel_rfl) Tryd.underlying182 Tryd.underlying58 (by kernel_rfl) (by kernel_rfl) h2
theorem star_err : "*" ++ "errors.errorString" = "*errors.errorString" := by decide
theorem row_err (u : TypeId) (h : (Tryd.prog).typeName? 3 u = some "*errors.errorString") : u = 203 :=
  typeName_ptr_named (nm := "errors.errorString") (by rw [star_err]; kernel_rfl) (by kernel_rfl) (by decide) u (by rw [star_err]; exact h)
/-- The error's variable out of a row's condition. -/
theorem syn_of {w : World} {l : List (String × DataW Unit)} (h : laidMet Tryd.prog l w) (hf : l.filter (fun x => x.1 == "strconv.ErrSyntax") = [("strconv.ErrSyntax", Rows.laid_strconv_ErrSyntax)]) : SynI w := by
  have h2 := h.filter (fun x => x.1 == "strconv.ErrSyntax")
  rw [hf] at h2
  obtain ⟨a, s, hv, -⟩ := laid_sentinel (g := 1) (ti := 77) h2 (by kernel_rfl) (by kernel_rfl) Tryd.underlying77 row_err Tryd.underlying203 Tryd.underlying205 rfl rfl Tryd.underlying9 (by kernel_rfl) (by kernel_rfl)
  have h0 := World.var?_cell (P := Tryd.prog) (n := "strconv.ErrSyntax") (g := 1) (by kernel_rfl) hv 0
  exact ⟨.iface 203 (.pointer (some a)), by simpa using h0, .inr ⟨_, _, rfl⟩⟩

set_option maxHeartbeats 800000 in
theorem lawReadPeriod (s : ByteArray) (w : World) (hL : laidMetH Tryd.prog Rows.fnExactReadPeriodRow.laid w) (hs : s.size ≤ maxLen) :
    Calls Tryd.prog 3 #[.string s] w fun e w' => e = .returned (.bool true) ∧ Below w.heap.size w w' := by
  have hp : laidMet Tryd.prog Rows.fnExactReadPeriodRow.laid w := by
    rw [MakeChecks.laidMetH_plain _ _ _ (by kernel_rfl)] at hL
    exact hL
  have ht : TabI w := tab_of hp (by rfl)
  have hv : SynI w := syn_of hp (by rfl)
  clear hL hp
  have hsm : s.size ≤ 9223372036854775807 := by unfold maxLen at hs; exact hs
  by_cases hbig : 1048576 < s.size
  · clear hs
    go_enter Tryd.func3, Tryd.ntmps3
    go_wp2
    go_ret
    exact ⟨rfl, Below.refl _ _⟩
  have hmax : s.size ≤ 1048576 := by omega
  have HS := Lib.hid fun W => rpS_any s W hmax
  have HI := Lib.hid fun W hb => rpI_any s W (ht.below hb) (hv.below hb) hmax
  clear hs
  go_enter Tryd.func3, Tryd.ntmps3
  go_wp2_with fail
  ((with_reducible refine (HS.out _).mono ?_); rintro e w1 ⟨⟨p, l, ok, rfl, hr1⟩, hb1⟩)
  have HR1 := Lib.hid hr1
  clear hr1
  go_wp2_with fail
  have g1 := gtr hb1 (bel1 w1 (.cells #[.int .i64 p, .int .i64 l] 23))
  have B1 := Blk.new w1 23 #[.int .i64 p, .int .i64 l]
  ((with_reducible refine (HI.out _ g1).mono ?_); rintro e w2 ⟨⟨p', l', ok', rfl, hr2⟩, hb2⟩)
  obtain ⟨rfl, rfl, rfl⟩ := HR1.out.unique hr2
  have g2 := gtr g1 hb2
  have B2 := B1.below hb2 B1.lt
  have c0 : w2.cell? ⟨w1.heap.size, 0, none⟩ = some (.int .i64 p) := B2.cell 0
  have c1 : w2.cell? ⟨w1.heap.size, 1, none⟩ = some (.int .i64 l) := B2.cell 1
  have hl1 := B2.lt
  have hne : ¬ w2.heap.size = w1.heap.size := by omega
  have hbe : (ok != ok) = false := by cases ok <;> rfl
  have hd : decide (p = p ∧ l = l) = true := decide_eq_true ⟨rfl, rfl⟩
  have HE := Lib.hid fun W => eqPeriod_any p l p l W
  rw [hd] at HE
  clear hr2 B1 B2 hb1 hb2 hd
  go_wp2_with fail
  ((with_reducible refine (HE.out _).mono ?_); rintro e w3 ⟨rfl, hb3⟩)
  go_wp2
  go_ret
  exact ⟨rfl, (g2.trans ((bel1 w2 _).mono g2.size)).trans (hb3.mono (by have := g2.size; simp; omega))⟩
end Go.Proofs.YtfafnjlembbemaaDoor
