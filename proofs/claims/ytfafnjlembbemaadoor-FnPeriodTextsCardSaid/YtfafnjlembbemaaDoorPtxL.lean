/- FnPeriodTexts returns true: the walk. Conditions: none. -/
import Derived.Test.YtfafnjlembbemaaDoorRp1
import Derived.Test.YtfafnjlembbemaaDoorSpoil
import Derived.Test.YtfafnjlembbemaaDoorBig
import Derived.Test.YtfafnjlembbemaaDoorRows
import Derived.Deep.RegionHeld3
import Derived.LaidSub
import Derived.Lib.LaidTab
import Derived.LaidMore
import Derived.SevenTiedAt
import Derived.Stop.LaidErr
namespace Go.Proofs.YtfafnjlembbemaaDoor
open Go.RowKit
set_option linter.unusedVariables false

theorem star_err : "*" ++ "errors.errorString" = "*errors.errorString" := by decide
theorem row_err (u : TypeId) (h : (Tryd.prog).typeName? 3 u = some "*errors.errorString") : u = 203 :=
  typeName_ptr_named (nm := "errors.errorString") (by rw [star_err]; kernel_rfl) (by kernel_rfl) (by decide) u (by rw [star_err]; exact h)
/-- The error's variable out of a row's condition. -/
theorem syn_of {w : World} {l : List (String × DataW Unit)} (h : laidMet Tryd.prog l w) (hf : l.filter (fun x => x.1 == "strconv.ErrSyntax") = [("strconv.ErrSyntax", Rows.laid_strconv_ErrSyntax)]) : SynI w := by
  have h2 := h.filter (fun x => x.1 == "strconv.ErrSyntax")
  rw [hf] at h2
  obtain ⟨a, s, hv, -⟩ := laid_sentinel (g := 1) (ti := 77) h2 (by kernel_rfl) (by kernel_rfl) Tryd.underlying77 row_err Tryd.underlying203 Tryd.underlying205 rfl rfl Tryd.underlying9 (by kernel_rfl) (by kernel_rfl)
  have h0 := World.var?_cell (P := Tryd.prog) (n := "strconv.ErrSyntax") (g := 1) (by kernel_rfl) hv 0
  exact ⟨.iface 203 (.pointer (some a)), by simpa using h0, .inr ⟨_, _, rfl⟩⟩

theorem num_dec {k : Nat} (h : k ≤ 999999) : isNum (str (Lib.decDigits k)) k := ⟨by omega, by omega, by rw [str_data, Lib.itoa_nonneg]⟩
theorem per_text {p l : Int} (h : goodPerB p l = true) : isPer (pText p.toNat l.toNat) p l := by
  have hg := h
  simp [goodPerB] at h
  obtain ⟨a, rfl⟩ := Int.eq_ofNat_of_zero_le (show 0 ≤ p by omega)
  obtain ⟨b, rfl⟩ := Int.eq_ofNat_of_zero_le (show 0 ≤ l by omega)
  have ha := num_dec (k := a) (by omega)
  have hb := num_dec (k := b) (by omega)
  obtain ⟨a1, a2⟩ := rn_yes ha
  obtain ⟨b1, b2⟩ := rn_yes hb
  exact ⟨Lib.decDigits a, Lib.decDigits b, by show (str _).data.toList = _; rw [str_data]; simp, num_no43 ha, a1, b1, a2, b2, hg⟩
theorem rn_is {s : ByteArray} (h : rnB s = true) : isNum s (rnV s) := by
  have h' := h
  obtain ⟨n, hn⟩ := @of_decide_eq_true _ (Classical.propDecidable _) h'
  rw [(rn_yes hn).2]
  exact hn
theorem text_per {s : ByteArray} {p l : Int} (h : isPer s p l) : pTextV p l = (s, true) := by
  obtain ⟨a, b, h1, h2, h3, h4, h5, h6, h7⟩ := h
  have ha := rn_is h3
  have hb := rn_is h4
  rw [h5] at ha
  rw [h6] at hb
  have hg := h7
  simp [goodPerB] at h7
  unfold pTextV
  rw [if_pos hg]
  congr 1
  obtain ⟨x, rfl⟩ := Int.eq_ofNat_of_zero_le (show 0 ≤ p by omega)
  obtain ⟨y, rfl⟩ := Int.eq_ofNat_of_zero_le (show 0 ≤ l by omega)
  have ea := ha.2.2
  have eb := hb.2.2
  rw [str_data, Lib.itoa_nonneg] at ea eb
  refine (str_of s ?_).symm
  rw [h1, ea, eb]
  simp

set_option maxRecDepth 100000 in
set_option maxHeartbeats 3200000 in
theorem lawPeriodTexts (a : Option Addr) (len cap : Nat) (zs : List Int) (w : World) (hL : laidMetH Tryd.prog Rows.fnPeriodTextsRow.laid w) (h : IsRow .u8 w a len cap zs) :
    Calls Tryd.prog 5 #[.slice a len cap] w fun e w' => e = .returned (.bool true) ∧ Below w.heap.size w w' := by
  have hp : laidMet Tryd.prog Rows.fnPeriodTextsRow.laid w := by
    rw [MakeChecks.laidMetH_plain _ _ _ (by kernel_rfl)] at hL
    exact hL
  have ht : TabI w := tab_of hp (by rfl)
  have hv : SynI w := syn_of hp (by rfl)
  clear hL hp
  obtain ⟨hr, hl⟩ := h.rdY
  clear h
  generalize zs.take len = bs at hr hl
  subst hl
  have h1 := hr.1.len
  have h2 := hr.1.max
  rw [byts_len] at h1
  have HB := Lib.hid (rBig_any a bs.length cap)
  by_cases hbig : 65536 < bs.length
  · have hbt : decide (65536 < bs.length) = true := by simpa using hbig
    have hB := HB.out w (by omega)
    rw [hbt] at hB
    have HB' := Lib.hid hB
    clear hB hbt
    go_enter Tryd.func5, Tryd.ntmps5
    go_wp2_with fail
    ((with_reducible refine HB'.out.mono ?_); rintro e w1 ⟨rfl, rfl⟩)
    go_wp2
    go_ret
    exact ⟨rfl, Below.refl _ _⟩
  have hbt : decide (65536 < bs.length) = false := by simpa using hbig
  have hB := HB.out w (by omega)
  rw [hbt] at hB
  have HB' := Lib.hid hB
  have HTAB := Lib.hid ht; have HSYN := Lib.hid hv; have HR := Lib.hid hr
  have hbl : bs.length ≤ 65536 := by omega
  clear hB hbt ht hv hr HB hbig
  go_enter Tryd.func5, Tryd.ntmps5
  go_wp2_with fail
  ((with_reducible refine HB'.out.mono ?_); rintro e w0 ⟨rfl, rfl⟩)
  go_wp2_with fail
  ((with_reducible refine (drawText_any _ _ _ _ HR.out).mono ?_); rintro e w1 ⟨p, l, rfl, hb1⟩)
  have hbx1 := bel1 w1 (.cells #[.int .i64 p, .int .i64 l] 23)
  have B1 := Blk.new w1 23 #[.int .i64 p, .int .i64 l]
  have g1 := gtr hb1 hbx1
  obtain ⟨S, ok, hS⟩ : ∃ S ok, pTextV p l = (S, ok) := ⟨_, _, rfl⟩
  have HTS := fun W => pTextS_all p l W
  have HTI := fun W h => pTextI_all p l W h
  rw [hS] at HTS HTI
  have HTS' := Lib.hid HTS; have HTI' := Lib.hid HTI
  have hSz : S.size ≤ 21 := by have := pTextV_size p l; rw [hS] at this; exact this
  have HPS : Hid (ok = true → isPer S p l) := Lib.hid fun h => by
    have hh := hS
    unfold pTextV at hh
    split at hh
    · rename_i hg
      have := per_text hg
      injection hh with hh _
      rw [← hh]; exact this
    · injection hh with _ hh
      rw [← hh] at h; cases h
  clear HTS HTI hS
  obtain ⟨V1, hV1⟩ : ∃ V1, V1 = w1.alloc (.cells #[.int .i64 p, .int .i64 l] 23) := ⟨_, rfl⟩
  go_wp2_with fail
  rw [← hV1]
  rw [← hV1] at B1 g1 hbx1
  obtain ⟨k1, hk1⟩ : ∃ k1, k1 = w1.heap.size := ⟨_, rfl⟩
  rw [← hk1] at B1 ⊢
  clear hV1 hbx1 hb1 hk1
  ((with_reducible refine (HTI'.out V1 (HTAB.out.below g1)).mono ?_); rintro e w2 ⟨rfl, hb2⟩)
  have B2 := B1.below hb2 B1.lt
  have g2 := gtr g1 hb2
  have c0 : w2.cell? ⟨k1, 0, none⟩ = some (.int .i64 p) := B2.cell 0
  have c1 : w2.cell? ⟨k1, 1, none⟩ = some (.int .i64 l) := B2.cell 1
  clear B1 hb2 g1
  go_wp2_with fail
  ((with_reducible refine (HTS'.out w2).mono ?_); rintro e w3 ⟨rfl, hb3⟩)
  have B3 := B2.below hb3 B2.lt
  have g3 := gtr g2 hb3
  clear B2 hb3 g2 c0 c1
  have hbe : (!(ok == ok)) = false := by cases ok <;> rfl
  have hbe2 : (ok != ok) = false := by cases ok <;> rfl
  go_wp2_with fail
  ((with_reducible refine (rpI_any S w3 (HTAB.out.below g3) (HSYN.out.below g3) (by omega)).mono ?_); rintro e w4 ⟨⟨q1, q2, okR, rfl, hq⟩, hb4⟩)
  have HQ := Lib.hid hq
  have B4 := B3.below hb4 B3.lt
  have g4 := gtr g3 hb4
  clear B3 hb4 g3 hq
  obtain ⟨V4, hV4⟩ : ∃ V4, V4 = w4.alloc (.cells #[.int .i64 q1, .int .i64 q2] 23) := ⟨_, rfl⟩
  have hbx4 := bel1 w4 (.cells #[.int .i64 q1, .int .i64 q2] 23)
  have Q4 := Blk.new w4 23 #[.int .i64 q1, .int .i64 q2]
  have B4' := B4.below hbx4 B4.lt
  have g4' := gtr g4 hbx4
  have hk41 := B4.lt
  go_wp2_with fail
  rw [← hV4]
  rw [← hV4] at Q4 B4' g4' hbx4
  obtain ⟨k4, hk4⟩ : ∃ k4, k4 = w4.heap.size := ⟨_, rfl⟩
  have hk14 : k1 < k4 := by omega
  rw [← hk4] at Q4 ⊢
  clear hV4 hbx4 hk4 B4 g4 hk41
  ((with_reducible refine (rCut_any a cap bs V4 (HR.out.below g4') hbl).mono ?_); rintro e w5 ⟨A5, c5, ys, rfl, hy5, hb5, hyl⟩)
  have B5 := B4'.below hb5 B4'.lt
  have Q5 := Q4.below hb5 Q4.lt
  have g5 := gtr g4' hb5
  clear B4' Q4 hb5 g4'
  go_wp2_with fail
  ((with_reducible refine (drawRead_any A5 c5 ys w5 hy5).mono ?_); rintro e w6 ⟨an, rfl, hans, hb6⟩)
  have B6 := B5.below hb6 B5.lt
  have Q6 := Q5.below hb6 Q5.lt
  have g6 := gtr g5 hb6
  clear B5 Q5 hb6 g5 hy5
  go_wp2_with fail
  ((with_reducible refine (rpI_any an w6 (HTAB.out.below g6) (HSYN.out.below g6) (by omega)).mono ?_); rintro e w7 ⟨⟨r1, r2, okA, rfl, hra⟩, hb7⟩)
  have B7 := B6.below hb7 B6.lt
  have Q7 := Q6.below hb7 Q6.lt
  have g7 := gtr g6 hb7
  clear B6 Q6 hb7 g6
  obtain ⟨T, okT, hT⟩ : ∃ T okT, pTextV r1 r2 = (T, okT) := ⟨_, _, rfl⟩
  have HTA := fun W h => pTextI_all r1 r2 W h
  rw [hT] at HTA
  have HTA' := Lib.hid HTA
  have HRA : Hid (okA = true → T = an ∧ okT = true) := Lib.hid fun h => by
    rcases hra with ⟨_, k⟩ | ⟨k, _⟩
    · have := text_per k
      rw [hT] at this
      injection this with e1 e2
      exact ⟨e1, e2⟩
    · rw [k] at h; cases h
  clear HTA hT hra
  have hbx7 := bel1 w7 (.cells #[.int .i64 r1, .int .i64 r2] 23)
  have B7' := B7.below hbx7 B7.lt
  have Q7' := Q7.below hbx7 Q7.lt
  have g7' := gtr g7 hbx7
  obtain ⟨V7, hV7⟩ : ∃ V7, V7 = w7.alloc (.cells #[.int .i64 r1, .int .i64 r2] 23) := ⟨_, rfl⟩
  go_wp2_with fail
  rw [← hV7]
  rw [← hV7] at B7' Q7' g7' hbx7
  clear hV7 hbx7 B7 Q7 g7
  ((with_reducible refine (HTA'.out V7 (HTAB.out.below g7')).mono ?_); rintro e w8 ⟨rfl, hb8⟩)
  have B8 := B7'.below hb8 B7'.lt
  have Q8 := Q7'.below hb8 Q7'.lt
  have g8 := gtr g7' hb8
  have c0 : w8.cell? ⟨k1, 0, none⟩ = some (.int .i64 p) := B8.cell 0
  have c1 : w8.cell? ⟨k1, 1, none⟩ = some (.int .i64 l) := B8.cell 1
  have d0 : w8.cell? ⟨k4, 0, none⟩ = some (.int .i64 q1) := Q8.cell 0
  have d1 : w8.cell? ⟨k4, 1, none⟩ = some (.int .i64 q2) := Q8.cell 1
  clear B7' Q7' hb8 B8 Q8 g7'
  cases ok
  · cases okA
    · go_wp2
      go_ret
      exact ⟨rfl, g8⟩
    · obtain ⟨e1, e2⟩ := HRA.out rfl
      subst e1
      subst e2
      go_wp2
      go_ret
      exact ⟨rfl, g8⟩
  · have hperS := HPS.out rfl
    obtain ⟨e1, e2, e3⟩ := (RpV.unique HQ.out (.inl ⟨rfl, hperS⟩))
    subst e1
    subst e2
    subst e3
    clear hperS
    cases okA
    · go_wp2
      go_ret
      exact ⟨rfl, g8⟩
    · obtain ⟨e1, e2⟩ := HRA.out rfl
      subst e1
      subst e2
      go_wp2
      go_ret
      exact ⟨rfl, g8⟩
end Go.Proofs.YtfafnjlembbemaaDoor
