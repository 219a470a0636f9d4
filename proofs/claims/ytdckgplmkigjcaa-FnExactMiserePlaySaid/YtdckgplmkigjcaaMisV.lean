/- MisereValue, MisereWins: the program's and the reference's, by contracts; the laws. Conditions: none. -/
import Derived.Test.YtdckgplmkigjcaaGoodM
import Derived.Test.YtdckgplmkigjcaaSl
namespace Go.Proofs.Ytdckgplmkigjcaa
open Go.RowKit Go.Maps
set_option linter.unusedVariables false

theorem newM_any (A : Option Addr) (c : Nat) (cs : List Int) (w : World) :
    Calls Try.prog 53 #[.slice A cs.length c] w fun e w' => ∃ b, e = .returned (.agg #[.slice A cs.length c, .map (some b)]) ∧ w.heap.size ≤ b ∧ MapM w' b cs [] ∧ Below w.heap.size w w' := by
  have hmk := fun w : World => (run_makeMap (P := Try.prog) 61 w)
  go_enter Try.func53, Try.ntmps53
  go_wp2
  have hz : (w.alloc (.cells #[.slice A cs.length c, .map (some (w.heap.size + 1))] 63)).heap.size = w.heap.size + 1 := by simp
  have hM := MapM.new (w.alloc (.cells #[.slice A cs.length c, .map (some (w.heap.size + 1))] 63)) cs
  rw [hz] at hM
  have r0 : ((w.alloc (.cells #[.slice A cs.length c, .map (some (w.heap.size + 1))] 63)).alloc (.map #[] 0)).cell? ⟨w.heap.size, 0, none⟩ = some (.slice A cs.length c) := ((Blk.new w _ _).alloc _).cell 0
  have r1 : ((w.alloc (.cells #[.slice A cs.length c, .map (some (w.heap.size + 1))] 63)).alloc (.map #[] 0)).cell? ⟨w.heap.size, 1, none⟩ = some (.map (some (w.heap.size + 1))) := ((Blk.new w _ _).alloc _).cell 1
  exact bodyPost_ret (v := .agg #[.slice A cs.length c, .map (some (w.heap.size + 1))]) (by simp only [results, Try.results53]; simp [go_sem, r0, r1]) rfl ⟨w.heap.size + 1, rfl, by omega, hM, bel2 w _ _⟩

/-- The misere value of a position, 0 where it or the code isn't valid. -/
noncomputable def mvV (cs p : List Int) : Nat := if smallB cs p 20 = true then mz cs (nz p) else 0
theorem smallB_of {cs p : List Int} {most : Int} (h : smallB cs p most = true) : goodCode cs ∧ goodH p ∧ sm p ≤ most := by
  unfold smallB at h
  rw [Bool.and_eq_true, Bool.and_eq_true] at h
  exact ⟨goodCodeB_true.1 h.1, goodHB_of h.2.1, of_decide_eq_true h.2.2⟩
theorem valI (cs : List Int) (hg : goodCode cs) (Ac : Option Addr) (cc B0 b : Nat) (hk0 : B0 ≤ b) (p : List Int) (w : World) (A : Option Addr) (c : Nat) (K : List (List Int)) (hp : Hp 20 p) (hM : MapM w b cs K) (hcode : RdI w B0 Ac cc cs) (hr : RdI w w.heap.size A c p) (hne : ∀ a, A = some a → a.block ≠ b) :
    Calls Try.prog 71 #[.agg #[.slice Ac cs.length cc, .map (some b)], .slice A p.length c, .int .i64 0, .int .i64 0] w fun e w' =>
      e = .returned (.int .i64 (mz cs p : Nat)) ∧ (∃ K', MapM w' b cs K') ∧ w.grownBy w' (some b) :=
  (valI_any cs hg Ac cc B0 b hk0 ((sm p).toNat + 1) p w A c K hp (by have := hp.nonneg; omega) hM hcode hr hne).mono fun _ _ ⟨h1, ⟨K', h2, _⟩, h3⟩ => ⟨h1, ⟨K', h2⟩, h3⟩
theorem valS (cs : List Int) (hg : goodCode cs) (Ac : Option Addr) (cc B0 g gk gv : Nat) (hk0 : B0 ≤ gk) (hv0 : B0 ≤ gv) (p : List Int) (w : World) (A : Option Addr) (c : Nat) (ks vs : List Int) (hp : Hp 20 p) (hM : BookM w g gk gv Ac cc cs ks vs) (hcode : RdI w B0 Ac cc cs) (hr : RdI w w.heap.size A c p) (hne : ∀ a, A = some a → a.block ≠ gk ∧ a.block ≠ gv) :
    Calls Try.prog 70 #[.pointer (some ⟨g, 0, none⟩), .slice A p.length c, .int .i64 0, .int .i64 0] w fun e w' =>
      e = .returned (.int .i64 (mz cs p : Nat)) ∧ (∃ ks' vs', BookM w' g gk gv Ac cc cs ks' vs') ∧ Tw w w' gk gv :=
  valS_any cs hg Ac cc B0 g gk gv hk0 hv0 ((sm p).toNat + 1) p w A c ks vs hp (by have := hp.nonneg; omega) hM hcode hr hne
theorem goodH_pos {p : List Int} (h : goodH p) : ∀ x ∈ p, 0 ≤ x := fun x hx => (h.2.1 x hx).1
theorem nz_sorted {p : List Int} (h : goodH p) : srt (nz p) = nz p := srt_self (h.2.2.sublist List.filter_sublist)

set_option maxHeartbeats 800000 in
theorem misereI_any (A A' : Option Addr) (c c' : Nat) (cs p : List Int) (w : World) (B : Nat) (hB : B ≤ w.heap.size) (h : RdI w B A c cs) (h' : RdI w B A' c' p) :
    Calls Try.prog 31 #[.slice A cs.length c, .slice A' p.length c'] w fun e w' => e = .returned (.tuple #[.int .i64 (mvV cs p : Nat), .bool (smallB cs p 20)]) ∧ Below w.heap.size w w' := by
  have HS := Lib.hid (smallI_any A A' c c' cs p 20 w B h h')
  rcases hs : smallB cs p 20 with _ | _
  · rw [hs] at HS
    have HV : Hid (mvV cs p = 0) := by show _ = _; rw [mvV, hs]; rfl
    clear hs
    go_enter Try.func31, Try.ntmps31
    go_wp2_with (go_at_call 60; (with_reducible refine (HS.out).mono ?_); rintro e w1 ⟨rfl, rfl⟩)
    go_ret2
    exact ⟨by rw [HV.out]; rfl, Below.refl _ _⟩
  · rw [hs] at HS
    obtain ⟨g1, g2, g3⟩ := smallB_of hs
    have HV : Hid (mvV cs p = mz cs (nz p)) := by show _ = _; rw [mvV, hs]; rfl
    have hp20 := hp_nz g2 g3
    have HG1 := Lib.hid g1; have HP := Lib.hid hp20; have HH := Lib.hid h; have HH' := Lib.hid h'; have HG2 := Lib.hid g2
    have hpl := g2.1
    clear hs g1 g2 g3 hp20 h h'
    go_enter Try.func31, Try.ntmps31
    go_wp2_with (first
      | (go_at_call 60; (with_reducible refine (HS.out).mono ?_); rintro e w1 ⟨rfl, rfl⟩)
      | (go_at_call 53; (with_reducible refine (newM_any A c cs _).mono ?_); rintro e w2 ⟨b, rfl, hbw, hM2, hb2⟩)
      | (go_at_call 72; (with_reducible refine (filled_any A' c' p w2 B (by have := hb2.size; omega) (HH'.out.below hb2 hB) (goodH_pos HG2.out) (by omega)).mono ?_); rintro e w3 ⟨A3, c3, rfl, ho3, hb3⟩; have hv := valI cs HG1.out A c B b (by omega) (nz p) w3 A3 c3 [] HP.out (hM2.kept (belowG hb3 none) (by simp)) (HH.out.below (gtr hb2 hb3) hB) (ho3.rd rfl) (fun a ha => by subst ha; have := (ho3.lt a.block rfl).1; have := hM2.lt; omega))
      | (go_at_call 71; (with_reducible refine hv.mono ?_); rintro e w4 ⟨rfl, -, hg4⟩))
    go_ret2
    have hb23 := gtr hb2 hb3
    exact ⟨by rw [HV.out]; rfl, hb23.grown hg4 hb23.size fun k hk => by injection hk with hk; omega⟩

set_option maxHeartbeats 800000 in
theorem misereS_any (A A' : Option Addr) (c c' : Nat) (cs p : List Int) (w : World) (B : Nat) (hB : B ≤ w.heap.size) (h : RdI w B A c cs) (h' : RdI w B A' c' p) :
    Calls Try.prog 30 #[.slice A cs.length c, .slice A' p.length c'] w fun e w' => e = .returned (.tuple #[.int .i64 (mvV cs p : Nat), .bool (smallB cs p 20)]) ∧ Below w.heap.size w w' := by
  have HS := Lib.hid (goodS_any A A' c c' cs p w B hB h h')
  rcases hs : smallB cs p 20 with _ | _
  · rw [hs] at HS
    have HV : Hid (mvV cs p = 0) := by show _ = _; rw [mvV, hs]; rfl
    clear hs
    go_enter Try.func30, Try.ntmps30
    go_wp2_with (go_at_call 55; (with_reducible refine (HS.out).mono ?_); rintro e w1 ⟨rfl, hb1⟩)
    go_ret2
    exact ⟨by rw [HV.out]; rfl, hb1⟩
  · rw [hs] at HS
    obtain ⟨g1, g2, g3⟩ := smallB_of hs
    have HV : Hid (mvV cs p = mz cs (nz p)) := by show _ = _; rw [mvV, hs]; rfl
    have hp20 := hp_nz g2 g3
    have HG1 := Lib.hid g1; have HP := Lib.hid hp20; have HH := Lib.hid h; have HH' := Lib.hid h'
    have HSO := Lib.hid (nz_sorted g2)
    have hpl := g2.1
    clear hs g1 g2 g3 hp20 h h'
    go_enter Try.func30, Try.ntmps30
    go_wp2_with (first
      | (go_at_call 55; (with_reducible refine (HS.out).mono ?_); rintro e w1 ⟨rfl, hb1⟩)
      | (go_at_call 48; (with_reducible refine (new_any A c cs _).mono ?_); rintro e w2 ⟨g, gk, gv, rfl, hl1, hl2, hl3, hM2, hb2⟩; have hb12 := gtr hb1 hb2)
      | (go_at_call 56; (with_reducible refine (sortS_any A' c' p w2 B (by have := hb12.size; omega) (HH'.out.below hb12 hB) (by omega)).mono ?_); rw [HSO.out]; rintro e w3 ⟨A3, c3, rfl, ho3, hb3⟩; have hv := valS cs HG1.out A c B g gk gv (by have := hb1.size; omega) (by have := hb1.size; omega) (nz p) w3 A3 c3 _ _ HP.out (hM2.below hb3) (HH.out.below (gtr hb12 hb3) hB) (ho3.rd rfl) (fun a ha => by subst ha; have := (ho3.lt a.block rfl).1; have := hM2.lt; exact ⟨by omega, by omega⟩))
      | (go_at_call 70; (with_reducible refine hv.mono ?_); rintro e w4 ⟨rfl, -, hg4⟩))
    go_ret2
    have hz1 := hb1.size
    exact ⟨by rw [HV.out]; rfl, Tw.below (gtr hb12 hb3) hg4 (by omega) (by omega)⟩
end Go.Proofs.Ytdckgplmkigjcaa
