/- Several texts in one: XBk0 XBook XKeyS XNewS XSortS. Conditions: none. -/
import Derived.Test.YtbledcogbkeneaaMz0
import Derived.Test.YtbledcogbkeneaaFresh
import Derived.Test.YtbledcogbkeneaaOpt0
import Derived.Deep.OwnRows
import Derived.RegionTactic
import Derived.Test.YtbledcogbkeneaaMoves2
import Derived.Deep.RegionHeld3
namespace Go.Proofs.Ytbledcogbkeneaa
open Go.RowKit
set_option linter.unusedVariables false

/-- The number of a position in the book. -/
def ky (p : List Int) : Int := (kf p 20 : Nat)
theorem ky_pos (p : List Int) : 0 ≤ ky p := Int.natCast_nonneg _
theorem ky_lt {p : List Int} (h : Hp 20 p) : ky p < 16094453760 := by
  have := kf_lt h 20
  rw [kR20] at this
  unfold ky
  omega
/-- The place that the search for a key comes to after d steps. -/
def plc (k : Int) (d : Nat) : Nat := (k.toNat % 8191 + d) % 8192
theorem plc_lt (k : Int) (d : Nat) : plc k d < 8192 := Nat.mod_lt _ (by omega)
theorem plc_succ (k : Int) (d : Nat) : plc k (d + 1) = (plc k d + 1) % 8192 := by unfold plc; omega
theorem plc_to (k : Int) (i : Nat) (h : i < 8192) : ∃ d, d < 8192 ∧ plc k d = i := by
  refine ⟨(i + 8192 - k.toNat % 8191) % 8192, Nat.mod_lt _ (by omega), ?_⟩
  unfold plc
  have := Nat.mod_lt k.toNat (show 0 < 8191 by omega)
  omega
/-- The book's keys and values are right. -/
def BkOk (cs ks vs : List Int) : Prop := ks.length = 8192 ∧ vs.length = 8192 ∧
  (∀ i, i < 8192 → gi ks i = -1 ∨ ∃ p, Hp 20 p ∧ gi ks i = ky p ∧ gi vs i = (mz cs p : Nat)) ∧
  (∀ i j, i < 8192 → j < 8192 → gi ks i = gi ks j → gi ks i ≠ -1 → i = j) ∧
  (∀ i, i < 8192 → gi ks i ≠ -1 → ∃ d, d < 8192 ∧ plc (gi ks i) d = i ∧ ∀ t, t < d → gi ks (plc (gi ks i) t) ≠ -1)
theorem gi_set (xs : List Int) (i j : Nat) (u : Int) (h : i < xs.length) : gi (xs.set i u) j = if j = i then u else gi xs j := by
  unfold gi
  rw [List.getD_eq_getElem?_getD, List.getElem?_set, List.getD_eq_getElem?_getD]
  by_cases e : i = j
  · subst e; simp [h]
  · rw [if_neg e, if_neg (Ne.symm e)]
theorem BkOk.new (cs : List Int) : BkOk cs (List.replicate 8192 (-1)) (List.replicate 8192 0) := by
  have e : ∀ i, i < 8192 → gi (List.replicate 8192 (-1 : Int)) i = -1 := fun i h => by
    unfold gi
    rw [List.getD_eq_getElem?_getD, List.getElem?_replicate, if_pos h]; rfl
  exact ⟨List.length_replicate, List.length_replicate, fun i h => .inl (e i h), fun i j hi _ _ h => absurd (e i hi) h, fun i hi h => absurd (e i hi) h⟩
theorem BkOk.free {cs ks vs : List Int} (h : BkOk cs ks vs) : ∃ i, i < 8192 ∧ gi ks i = -1 := by
  obtain ⟨h1, h2, h3, h4, h5⟩ := h
  apply Classical.byContradiction
  intro hn
  have hne : ∀ i, i < 8192 → gi ks i ≠ -1 := fun i hi e => hn ⟨i, hi, e⟩
  have hnd : ks.Nodup := by
    unfold List.Nodup
    rw [List.pairwise_iff_getElem]
    intro i j hi hj hij e
    have ei : gi ks i = ks[i] := by simp [gi, hi]
    have ej : gi ks j = ks[j] := by simp [gi, hj]
    have := h4 i j (by omega) (by omega) (by rw [ei, ej, e]) (hne i (by omega))
    omega
  have hm : ∀ x ∈ ks, x ∈ (parts 20 1 20).map ky := fun x hx => by
    obtain ⟨i, hi, rfl⟩ := List.getElem_of_mem hx
    have ei : gi ks i = ks[i] := by simp [gi, hi]
    rcases h3 i (by omega) with e | ⟨p, hp, e, _⟩
    · exact absurd e (hne i (by omega))
    · rw [← ei, e]
      exact List.mem_map.2 ⟨p, hp_parts hp, rfl⟩
  have := nodup_le ks _ hnd hm
  rw [List.length_map, parts_len, cnt20, h1] at this
  omega
/-- Where the search for a key ends. -/
def SlotAt (ks : List Int) (k : Int) (i : Nat) : Prop := (gi ks i = -1 ∨ gi ks i = k) ∧ ∃ d, d < 8192 ∧ plc k d = i ∧ ∀ t, t < d → gi ks (plc k t) ≠ -1 ∧ gi ks (plc k t) ≠ k
theorem SlotAt.lt {ks : List Int} {k : Int} {i : Nat} (h : SlotAt ks k i) : i < 8192 := by
  obtain ⟨_, d, _, rfl, _⟩ := h
  exact plc_lt _ _
theorem slot_hit {cs ks vs p : List Int} {i : Nat} (h : BkOk cs ks vs) (hp : Hp 20 p) (hi : i < 8192) (hk : gi ks i = ky p) : gi vs i = (mz cs p : Nat) := by
  rcases h.2.2.1 i hi with e | ⟨q, hq, e1, e2⟩
  · have := ky_pos p; omega
  · have : ky q = ky p := by rw [← e1, hk]
    have : q = p := key_inj hq hp (by unfold ky at this; omega)
    rw [e2, this]
theorem slot_put {cs ks vs p : List Int} {i : Nat} (h : BkOk cs ks vs) (hp : Hp 20 p) (hs : SlotAt ks (ky p) i) : BkOk cs (ks.set i (ky p)) (vs.set i (mz cs p : Nat)) := by
  obtain ⟨h1, h2, h3, h4, h5⟩ := h
  have hi := hs.lt
  obtain ⟨s1, d, sd, sp, st⟩ := hs
  have hk0 := ky_pos p
  have g1 : ∀ j, gi (ks.set i (ky p)) j = if j = i then ky p else gi ks j := fun j => gi_set ks i j _ (by omega)
  have g2 : ∀ j, gi (vs.set i ((mz cs p : Nat) : Int)) j = if j = i then ((mz cs p : Nat) : Int) else gi vs j := fun j => gi_set vs i j _ (by omega)
  have hfar : ∀ j, j < 8192 → j ≠ i → gi ks j ≠ ky p := fun j hj hji e => by
    rcases s1 with s1 | s1
    · obtain ⟨d2, k1, k2, k3⟩ := h5 j hj (by omega)
      rw [e] at k2 k3
      rcases Nat.lt_trichotomy d2 d with hlt | he | hlt
      · exact (st d2 hlt).2 (by rw [k2]; exact e)
      · rw [he, sp] at k2; exact hji k2.symm
      · exact k3 d hlt (by rw [sp]; exact s1)
    · exact hji (h4 j i hj hi (by rw [e, s1]) (by omega))
  refine ⟨by rw [List.length_set, h1], by rw [List.length_set, h2], fun j hj => ?_, fun j k hj hk => ?_, fun j hj => ?_⟩
  · rw [g1, g2]
    by_cases e : j = i
    · rw [if_pos e, if_pos e]
      exact .inr ⟨p, hp, rfl, rfl⟩
    · rw [if_neg e, if_neg e]
      exact h3 j hj
  · rw [g1, g1]
    by_cases e : j = i
    · by_cases e' : k = i
      · intro _ _; rw [e, e']
      · rw [if_pos e, if_neg e']
        intro he
        exact absurd he.symm (hfar k hk e')
    · by_cases e' : k = i
      · rw [if_neg e, if_pos e']
        intro he
        exact absurd he (hfar j hj e)
      · rw [if_neg e, if_neg e']
        exact h4 j k hj hk
  · rw [g1 j]
    have hkeep : ∀ x, gi ks x ≠ -1 → gi (ks.set i (ky p)) x ≠ -1 := fun x hx => by
      rw [g1]
      split
      · omega
      · exact hx
    by_cases e : j = i
    · rw [if_pos e]
      intro _
      exact ⟨d, sd, by rw [e]; exact sp, fun t ht => hkeep _ (st t ht).1⟩
    · rw [if_neg e]
      intro hne
      obtain ⟨d2, k1, k2, k3⟩ := h5 j hj hne
      exact ⟨d2, k1, k2, fun t ht => hkeep _ (k3 t ht)⟩
end Go.Proofs.Ytbledcogbkeneaa
namespace Go.Proofs.Ytbledcogbkeneaa
open Go.RowKit
set_option linter.unusedVariables false

/-- Nothing that was there has turned but blocks a and b. -/
def Tw (w w' : World) (a b : Nat) : Prop := w'.os = w.os ∧ w'.tape = w.tape ∧ w'.output = w.output ∧ w.heap.size ≤ w'.heap.size ∧ ∀ k, k < w.heap.size → k ≠ a → k ≠ b → w'.heap[k]? = w.heap[k]?
theorem Tw.refl (w : World) (a b : Nat) : Tw w w a b := ⟨rfl, rfl, rfl, Nat.le_refl _, fun _ _ _ _ => rfl⟩
theorem Tw.trans {u v w : World} {a b : Nat} (h : Tw u v a b) (k : Tw v w a b) : Tw u w a b := by
  obtain ⟨h1, h2, h3, h4, h5⟩ := h
  obtain ⟨k1, k2, k3, k4, k5⟩ := k
  exact ⟨k1.trans h1, k2.trans h2, k3.trans h3, Nat.le_trans h4 k4, fun j hj ha hb => (k5 j (by omega) ha hb).trans (h5 j hj ha hb)⟩
theorem Tw.of_below {w w' : World} {a b : Nat} (h : Below w.heap.size w w') : Tw w w' a b := ⟨h.os, h.tape, h.output, h.size, fun k hk _ _ => h.block k hk⟩
theorem Tw.of_grown {w w' : World} {a b : Nat} {row : Option Nat} (h : w.grownBy w' row) (hr : row = none ∨ row = some a ∨ row = some b) : Tw w w' a b :=
  ⟨h.os, h.tape, h.output, h.size, fun k hk ha hb => h.block k hk (by rcases hr with e | e | e <;> rw [e] <;> simp [ha, hb])⟩
theorem Tw.size {w w' : World} {a b : Nat} (h : Tw w w' a b) : w.heap.size ≤ w'.heap.size := h.2.2.2.1
theorem Tw.set1 {w : World} {a b o : Nat} {u : Value} : Tw w (w.setCell ⟨a, o, none⟩ u) a b := ⟨rfl, rfl, rfl, by simp, fun k hk ha hb => Below.heap_setCell _ _ _ _ ha⟩
theorem Tw.set2 {w : World} {a b o : Nat} {u : Value} : Tw w (w.setCell ⟨b, o, none⟩ u) a b := ⟨rfl, rfl, rfl, by simp, fun k hk ha hb => Below.heap_setCell _ _ _ _ hb⟩
theorem Tw.below {u w w' : World} {a b : Nat} (hW : Below u.heap.size u w) (h : Tw w w' a b) (ha : u.heap.size ≤ a) (hb : u.heap.size ≤ b) : Below u.heap.size u w' :=
  hW.trans ⟨h.1, h.2.1, h.2.2.1, h.2.2.2.1, fun k hk => h.2.2.2.2 k (by have := hW.size; omega) (by omega) (by omega)⟩
theorem RdI.tw {w w' : World} {a b B c : Nat} {A : Option Addr} {xs : List Int} (h : RdI w B A c xs) (ht : Tw w w' a b) (hB : B ≤ w.heap.size) (hn : ∀ p, A = some p → p.block ≠ a ∧ p.block ≠ b) : RdI w' B A c xs := by
  refine ⟨h.1, h.2.1, h.2.2.1, fun j hj => ?_⟩
  obtain ⟨k, o, e, hb, hc⟩ := h.2.2.2 j hj
  have hne := hn _ e
  exact ⟨k, o, e, hb, fun i v hi => (World.cell?_of_block (a := ⟨k, o + i, none⟩) (ht.2.2.2.2 k (by omega) hne.1 hne.2)).trans (hc i v hi)⟩
theorem RdI.twLow {w w' : World} {a b B c : Nat} {A : Option Addr} {xs : List Int} (h : RdI w B A c xs) (ht : Tw w w' a b) (hB : B ≤ w.heap.size) (ha : B ≤ a) (hb : B ≤ b) : RdI w' B A c xs := by
  refine ⟨h.1, h.2.1, h.2.2.1, fun j hj => ?_⟩
  obtain ⟨k, o, e, hk, hc⟩ := h.2.2.2 j hj
  exact ⟨k, o, e, hk, fun i v hi => (World.cell?_of_block (a := ⟨k, o + i, none⟩) (ht.2.2.2.2 k (by omega) (by omega) (by omega))).trans (hc i v hi)⟩
theorem Rd.tw {w w' : World} {lo a b B c : Nat} {A : Option Addr} {cs : List Value} (h : Rd w B A c cs) (hl : Lo lo A) (ht : Tw w w' a b) (hB : B ≤ w.heap.size) (ha : a < lo ∨ B ≤ a) (hb : b < lo ∨ B ≤ b) : Rd w' B A c cs := by
  refine ⟨h.1, h.2.1, h.2.2.1, fun j hj => ?_⟩
  obtain ⟨k, o, e, hk, hc⟩ := h.2.2.2 j hj
  have h1 : lo ≤ k := hl _ e
  exact ⟨k, o, e, hk, fun i v hi => (World.cell?_of_block (a := ⟨k, o + i, none⟩) (ht.2.2.2.2 k (by omega) (by omega) (by omega))).trans (hc i v hi)⟩
theorem RdR.tw {w w' : World} {lo a b B c : Nat} {A : Option Addr} {xss : List (List Int)} (h : RdR w lo B A c xss) (ht : Tw w w' a b) (hB : B ≤ w.heap.size) (ha : a < lo ∨ B ≤ a) (hb : b < lo ∨ B ≤ b) : RdR w' lo B A c xss := by
  obtain ⟨cs, h1, hl, h2⟩ := h
  exact ⟨cs, h1.tw hl ht hB ha hb, hl, h2.keep fun _ _ _ k kl => Rd.tw k kl ht hB ha hb⟩
theorem Own.tw {w w' : World} {a b base : Nat} {E : TypeId} {v : Value} {cs : List Value} (h : Own w base E v cs) (ht : Tw w w' a b) (hn : ∀ k, v.ownBlock = some k → k ≠ a ∧ k ≠ b) : Own w' base E v cs := by
  have hl := h.lt
  obtain ⟨h1, h2⟩ := h
  refine ⟨h1, ?_⟩
  rcases h2 with h2 | ⟨k, cap, cur, hv, hgb, hh, r⟩
  · exact Or.inl h2
  · have hk := hl k (by rw [hv]; rfl)
    have := hn k (by rw [hv]; rfl)
    exact Or.inr ⟨k, cap, cur, hv, hgb, (ht.2.2.2.2 k hk.2 this.1 this.2).trans hh, r⟩
theorem Blk.tw {w w' : World} {a b g : Nat} {t : TypeId} {cs : Array Value} (h : Blk w g t cs) (ht : Tw w w' a b) (ha : g ≠ a) (hb : g ≠ b) : Blk w' g t cs := (ht.2.2.2.2 g h.lt ha hb).trans h
theorem FrR.tw {w w' : World} {lo a b : Nat} {E e : TypeId} {v : Value} {css : List (List Value)} (h : FrR w lo E e v css) (ht : Tw w w' a b) (ha : a < lo) (hb : b < lo) : FrR w' lo E e v css := by
  obtain ⟨cs, h1, h2, h3⟩ := h
  exact ⟨cs, h1.tw ht (fun k hk => by have := h1.lt k hk; omega), h2.keep fun _ u _ _ k => k.tw ht (fun j hj => by have := k.lt j hj; omega), h3⟩

/-- The book at block g, its lists in blocks gk and gv, at lists ks and vs. -/
def BookM (w : World) (g gk gv : Nat) (A : Option Addr) (c : Nat) (cs ks vs : List Int) : Prop :=
  Blk w g 62 #[.slice A cs.length c, .slice (some ⟨gk, 0, none⟩) 8192 8192, .slice (some ⟨gv, 0, none⟩) 8192 8192] ∧ Blk w gk 3 (ints ks).toArray ∧ Blk w gv 3 (ints vs).toArray ∧ BkOk cs ks vs ∧ g ≠ gk ∧ g ≠ gv ∧ gk ≠ gv
theorem BookM.below {w w' : World} {g gk gv c : Nat} {A : Option Addr} {cs ks vs : List Int} (h : BookM w g gk gv A c cs ks vs) (hb : Below w.heap.size w w') : BookM w' g gk gv A c cs ks vs := by
  obtain ⟨h1, h2, h3, r⟩ := h
  exact ⟨h1.below hb h1.lt, h2.below hb h2.lt, h3.below hb h3.lt, r⟩
theorem BookM.lt {w : World} {g gk gv c : Nat} {A : Option Addr} {cs ks vs : List Int} (h : BookM w g gk gv A c cs ks vs) : g < w.heap.size ∧ gk < w.heap.size ∧ gv < w.heap.size := ⟨h.1.lt, h.2.1.lt, h.2.2.1.lt⟩
theorem arr_gi (xs : List Int) (i : Nat) (h : i < xs.length) : (ints xs).toArray[i]? = some (.int .i64 (gi xs i)) := by
  have := ints_at xs i h
  simpa using this
theorem arr_set (xs : List Int) (i : Nat) (u : Int) : (ints xs).toArray.setIfInBounds i (.int .i64 u) = (ints (xs.set i u)).toArray := by
  simp [ints, List.map_set]
theorem BookM.key {w : World} {g gk gv c : Nat} {A : Option Addr} {cs ks vs : List Int} (h : BookM w g gk gv A c cs ks vs) (i : Nat) (hi : i < 8192) : w.cell? ⟨gk, i, none⟩ = some (.int .i64 (gi ks i)) := by
  rw [h.2.1.cell, arr_gi ks i (by rw [h.2.2.2.1.1]; exact hi)]
theorem BookM.val {w : World} {g gk gv c : Nat} {A : Option Addr} {cs ks vs : List Int} (h : BookM w g gk gv A c cs ks vs) (i : Nat) (hi : i < 8192) : w.cell? ⟨gv, i, none⟩ = some (.int .i64 (gi vs i)) := by
  rw [h.2.2.1.cell, arr_gi vs i (by rw [h.2.2.2.1.2.1]; exact hi)]
theorem BookM.put {w : World} {g gk gv c i : Nat} {A : Option Addr} {cs ks vs p : List Int} (h : BookM w g gk gv A c cs ks vs) (hp : Hp 20 p) (hs : SlotAt ks (ky p) i) :
    BookM ((w.setCell ⟨gk, i, none⟩ (.int .i64 (ky p))).setCell ⟨gv, i, none⟩ (.int .i64 (mz cs p : Nat))) g gk gv A c cs (ks.set i (ky p)) (vs.set i (mz cs p : Nat)) := by
  obtain ⟨h1, h2, h3, h4, e1, e2, e3⟩ := h
  refine ⟨(h1.far (p := ⟨gk, i, none⟩) e1 _).far (p := ⟨gv, i, none⟩) e2 _, ?_, ?_, slot_put h4 hp hs, e1, e2, e3⟩
  · rw [← arr_set]
    exact (h2.set i _).far (p := ⟨gv, i, none⟩) e3 _
  · rw [← arr_set]
    exact (h3.far (p := ⟨gk, i, none⟩) (Ne.symm e3) _).set i _
end Go.Proofs.Ytbledcogbkeneaa
namespace Go.Proofs.Ytbledcogbkeneaa
open Go.RowKit
set_option linter.unusedVariables false

/-- How often each size is there. -/
def cntL (p : List Int) : List Int := (List.range 21).map fun (h : Nat) => ((p.count (h : Int) : Nat) : Int)
theorem cntL_len (p : List Int) : (cntL p).length = 21 := by simp [cntL]
theorem cntL_gi (p : List Int) (h : Nat) (hh : h < 21) : gi (cntL p) h = (p.count (h : Int) : Nat) := by simp [gi, cntL, hh]
theorem cntL_nil : cntL [] = List.replicate 21 0 := by
  refine List.ext_getElem (by simp [cntL]) fun i h1 h2 => ?_
  rw [List.getElem_replicate]
  simp [cntL]
theorem cntL_snoc (p : List Int) (x : Nat) (hx : x < 21) : cntL (p ++ [(x : Int)]) = (cntL p).set x (gi (cntL p) x + 1) := by
  refine List.ext_getElem (by simp [cntL]) fun i h1 h2 => ?_
  have hi : i < 21 := by rw [cntL_len] at h1; exact h1
  rw [List.getElem_set]
  simp only [cntL_gi p x hx]
  simp only [cntL, List.getElem_map, List.getElem_range, List.count_append, List.count_singleton]
  by_cases e : x = i
  · subst e; simp
  · rw [if_neg e, if_neg (by simpa using by omega)]; simp
theorem kR_le : ∀ h, h ≤ 20 → kR h ≤ 16094453760 := by
  have : ∀ h : Fin 21, kR h.val ≤ 16094453760 := by decide
  exact fun h hh => this ⟨h, by omega⟩
theorem kf_step {p : List Int} (hp : Hp 20 p) (h : Nat) (hh : h < 20) : kf p h * (20 / (h + 1) + 1) + p.count ((h + 1 : Nat) : Int) = kf p (h + 1) ∧ kf p h * (20 / (h + 1) + 1) ≤ 16094453760 ∧ kf p (h + 1) ≤ 16094453760 := by
  have h1 := kf_lt hp (h + 1)
  have h2 := kR_le (h + 1) (by omega)
  have e : kf p (h + 1) = kf p h * (20 / (h + 1) + 1) + p.count ((h + 1 : Nat) : Int) := rfl
  omega
theorem made_ints (n : Nat) : madeCells #[Value.int .i64 0] n = (ints (List.replicate n 0)).toArray := by
  refine Array.ext (by simp [madeCells, ints]) fun i h1 h2 => ?_
  simp [madeCells, ints, Nat.mod_one]

set_option maxHeartbeats 800000 in
theorem key_any (A : Option Addr) (c : Nat) (p : List Int) (w : World) (B : Nat) (hB : B ≤ w.heap.size) (h : RdI w B A c p) (hp : Hp 20 p) :
    Calls Try.prog 61 #[.slice A p.length c, .int .i64 0, .int .i64 0] w fun e w' => e = .returned (.int .i64 (ky p)) ∧ Below w.heap.size w w' := by
  have h1 := h.len
  have h2 := h.max
  have hl := hp.len
  have HP := Lib.hid hp; clear hp
  have hmk : ∀ w : World, (Instr.makeSlice 22 (.int .i64 21) (.int .i64 21)).run Try.prog w = .ok (.slice (some ⟨w.heap.size, 0, none⟩) 21 21) (w.alloc (.cells (ints (cntL [])).toArray 3)) := fun w => by
    have := run_make_row' (P := Try.prog) 22 3 (.int .i64 0) 8 Try.underlying22 infoInt rfl .i64 .i64 21 (by omega) (by omega) w
    rw [made_ints, ← cntL_nil] at this
    exact this
  go_enter Try.func61, Try.ntmps61
  go_wp2
  obtain ⟨g, hg⟩ : ∃ g, g = w.heap.size := ⟨_, rfl⟩
  rw [← hg]
  have HGE := Lib.hid hg
  have hB0 : Blk (w.alloc (.cells (ints (cntL [])).toArray 3)) g 3 (ints (cntL [])).toArray := Blk.new_at _ _ _ hg
  have hbw := bel1 w (.cells (ints (cntL [])).toArray 3)
  generalize w.alloc (.cells (ints (cntL [])).toArray 3) = W at *
  clear hg hmk
  go_loopw [8] (fun i wr => ∃ k : Nat, i = .int .i64 k ∧ k ≤ p.length ∧ Blk wr g 3 (ints (cntL (p.take k))).toArray ∧ Below w.heap.size w wr) (fun i _ => p.length - (intOf i).toNat)
  case atStart => exact ⟨0, rfl, by omega, hB0, hbw⟩
  case round =>
    clear hB0 hbw
    obtain ⟨k, rfl, hk, hBr, hb⟩ := hrel
    by_cases hlt : k < p.length
    · obtain ⟨b, o, rfl, hbB, hc⟩ := (h.below hb hB).at (j := k) hlt
      have hck := hc k hlt
      clear hc
      obtain ⟨x, hx⟩ := Int.eq_ofNat_of_zero_le (show 0 ≤ gi p k by have := HP.out.le (gi_mem hlt); omega)
      have hx20 : 1 ≤ x ∧ x ≤ 20 := by have := HP.out.le (gi_mem hlt); omega
      obtain ⟨hx1, hx2⟩ := hx20
      rw [hx] at hck
      have hcx := (hBr.cell x).trans (arr_gi _ x (by rw [cntL_len]; omega))
      have hfx := hBr.frozen x
      have hcn : gi (cntL (p.take k)) x = ((p.take k).count (x : Int) : Nat) := cntL_gi _ x (by omega)
      have hle : (p.take k).count (x : Int) ≤ 20 := Nat.le_trans List.count_le_length (by rw [List.length_take]; omega)
      have hB2 := hBr.set x (.int .i64 (gi (cntL (p.take k)) x + 1))
      rw [arr_set, ← cntL_snoc _ x (by omega), ← hx, ← take_succ_gi p k hlt] at hB2
      rw [hcn] at hB2 hcx
      obtain ⟨n, hn⟩ : ∃ n, n = (p.take k).count (x : Int) := ⟨_, rfl⟩
      rw [← hn] at hB2 hcx hle
      have HB2 := Lib.hid hB2; have HBr := Lib.hid hBr
      have HG2 : Hid (w.heap.size ≤ g) := by show _ ≤ _; rw [HGE.out]; exact Nat.le_refl _
      clear hB2 hBr hcn hn hx h
      go_wp2
      go_roundw
      case rel => exact ⟨k + 1, by go_num, by omega, HB2.out, hb.setCell HG2.out _⟩
      case measure => simp [intOf]; omega
    · obtain rfl : k = p.length := by omega
      rw [List.take_length] at hBr
      go_wp2
      clear h h1 h2 hlt hk
      obtain ⟨w1, rfl⟩ : ∃ w1, w1 = wr := ⟨_, rfl⟩
      go_loopw [9, 10] (fun v i wi => ∃ h : Nat, i = .int .i64 ((h : Int) + 1) ∧ h ≤ 20 ∧ v = .int .i64 (kf p h : Nat) ∧ wi.heap = w1.heap ∧ Below w1.heap.size w1 wi) (fun _ i _ => 21 - (intOf i).toNat)
      case atStart => exact ⟨0, rfl, by omega, rfl, rfl, Below.refl _ _⟩
      case round =>
        obtain ⟨h, rfl, hh, rfl, hwh, hb2⟩ := hrel
        have hBi : Blk wr g 3 (ints (cntL p)).toArray := by unfold Blk; rw [hwh]; exact hBr
        by_cases hlt : h < 20
        · have hst := kf_step HP.out h hlt
          have hcx := (hBi.cell (h + 1)).trans (arr_gi _ (h + 1) (by rw [cntL_len]; omega))
          rw [cntL_gi p (h + 1) (by omega)] at hcx
          obtain ⟨a, ha⟩ : ∃ a, a = kf p h := ⟨_, rfl⟩
          obtain ⟨a', ha'⟩ : ∃ a', a' = kf p (h + 1) := ⟨_, rfl⟩
          obtain ⟨n, hn⟩ : ∃ n, n = p.count ((h + 1 : Nat) : Int) := ⟨_, rfl⟩
          rw [← hn] at hcx hst
          rw [← ha] at hst ⊢
          rw [← ha'] at hst
          have HA' := Lib.hid ha'
          obtain ⟨s1, s2, s3⟩ := hst
          clear ha ha' hn
          obtain ⟨q, hq⟩ : ∃ q, q = 20 / (h + 1) := ⟨_, rfl⟩
          rw [← hq] at s1 s2
          have hqd : (20 : Int) / ((h : Int) + 1) = (q : Int) := by rw [hq]; exact (Int.natCast_ediv 20 (h + 1)).symm
          have hqt : (20 : Int).tdiv ((h : Int) + 1) = (q : Int) := by rw [Int.tdiv_eq_ediv_of_nonneg (by omega)]; exact hqd
          have hq20 : q ≤ 20 := by rw [hq]; exact Nat.div_le_self _ _
          have hm : (a : Int) * ((q : Int) + 1) = ((a * (q + 1) : Nat) : Int) := by rw [Int.natCast_mul]; rfl
          obtain ⟨m, hmm⟩ : ∃ m, m = a * (q + 1) := ⟨_, rfl⟩
          rw [← hmm] at hm s1 s2
          have hne : ((h : Int) + 1 == 0) = false := by simp; omega
          have hs1 : (m : Int) + (n : Int) = (a' : Int) := by omega
          have HW := Lib.hid hwh; have HB2 := Lib.hid hb2
          clear hmm hq s1 hBi hwh hb2
          go_wp2
          go_quiet (fail)
          go_wp2
          go_roundw
          case rel => exact ⟨h + 1, by go_num, by omega, by rw [HA'.out], HW.out, bdrew HB2.out _⟩
          case measure => simp [intOf]; omega
        · obtain rfl : h = 20 := by omega
          go_wp2
          go_ret
          exact ⟨rfl, hb.trans (hb2.mono hb.size)⟩

set_option maxHeartbeats 800000 in
theorem slot_any (w : World) (g gk gv c : Nat) (A : Option Addr) (cs ks vs : List Int) (k : Nat) (h : BookM w g gk gv A c cs ks vs) (hk : k ≤ 16094453760) :
    Calls Try.prog 62 #[.pointer (some ⟨g, 0, none⟩), .int .i64 k] w fun e w' => ∃ i : Nat, e = .returned (.int .i64 i) ∧ SlotAt ks k i ∧ w' = w := by
  obtain ⟨i0, hi0, hf0⟩ := h.2.2.2.1.free
  obtain ⟨D, hD, hpD⟩ := plc_to k i0 hi0
  have hge : ∀ i, i < 8192 → gi ks i = -1 ∨ 0 ≤ gi ks i := fun i hi => by
    rcases h.2.2.2.1.2.2.1 i hi with e | ⟨p, _, e, _⟩
    · exact .inl e
    · exact .inr (by rw [e]; exact ky_pos p)
  have q1 : w.cell? ⟨g, 1, none⟩ = some (.slice (some ⟨gk, 0, none⟩) 8192 8192) := h.1.cell 1
  have HC : Hid (∀ i, i < 8192 → w.cell? ⟨gk, i, none⟩ = some (.int .i64 (gi ks i))) := fun i hi => h.key i hi
  have HGE := Lib.hid hge; have HF0 := Lib.hid hf0; have HPD := Lib.hid hpD
  clear h hge hf0 hpD
  have hmod : ((k : Int) % 8191) = ((k % 8191 : Nat) : Int) := by omega
  have htm : Int.tmod (k : Int) 8191 = ((k % 8191 : Nat) : Int) := by rw [Int.tmod_eq_emod_of_nonneg (by omega)]; exact hmod
  have hpl : k % 8191 = plc k 0 := by unfold plc; simp; omega
  rw [hpl] at hmod htm
  clear hpl
  go_enter Try.func62, Try.ntmps62
  go_wp2
  go_loop [5] (fun v => ∃ d : Nat, v = .int .i64 (plc k d : Nat) ∧ d ≤ D ∧ (∀ t, t < d → gi ks (plc k t) ≠ -1 ∧ gi ks (plc k t) ≠ k)) (fun v => (i0 + 8192 - (intOf v).toNat) % 8192)
  case atStart => exact ⟨0, rfl, by omega, fun t ht => by omega⟩
  case round =>
    obtain ⟨d, rfl, hd, hs⟩ := hrel
    have HS := Lib.hid hs
    have hil := plc_lt k d
    have hstep := plc_succ k d
    obtain ⟨i, hi⟩ : ∃ i, i = plc k d := ⟨_, rfl⟩
    have hci := HC.out (plc k d) hil
    have hgi := HGE.out (plc k d) hil
    rw [← hi] at hil hstep hci hgi ⊢
    have HI := Lib.hid hi; clear hi hs
    obtain ⟨x, hx⟩ : ∃ x, x = gi ks i := ⟨_, rfl⟩
    rw [← hx] at hci hgi
    have HX := Lib.hid hx; clear hx
    by_cases hx1 : x = -1
    · have hx2 : ¬ (0 : Int) ≤ x := by omega
      go_wp2
      go_ret
      exact ⟨i, rfl, ⟨.inl (by rw [← HX.out, hx1]), d, by omega, HI.out.symm, HS.out⟩, rfl⟩
    · have hx2 : (0 : Int) ≤ x := by omega
      by_cases hxk : x = k
      · have ht : (x != (k : Int)) = false := by simp [hxk]
        have HXK := Lib.hid hxk; clear hxk
        go_wp2
        go_ret
        exact ⟨i, rfl, ⟨.inr (by rw [← HX.out, HXK.out]), d, by omega, HI.out.symm, HS.out⟩, rfl⟩
      · have ht : (x != (k : Int)) = true := by simp [hxk]
        have HXK := Lib.hid hxk; clear hxk
        have hii0 : i ≠ i0 := fun e => hx1 (by rw [HX.out, e]; exact HF0.out)
        have hdD : d ≠ D := fun e => hii0 (by rw [HI.out, e]; exact HPD.out)
        have hm1 : ((i : Int) + 1) % 8192 = ((plc k (d + 1) : Nat) : Int) := by rw [hstep]; omega
        have hm2 : Int.tmod ((i : Int) + 1) 8192 = ((plc k (d + 1) : Nat) : Int) := by rw [Int.tmod_eq_emod_of_nonneg (by omega)]; exact hm1
        have HST := Lib.hid hstep; clear hstep
        have HX1 := Lib.hid hx1; clear hx1
        go_wp2
        go_round
        case rel =>
          refine ⟨d + 1, rfl, by omega, fun t ht => ?_⟩
          by_cases e : t = d
          · subst e
            rw [← HI.out, ← HX.out]
            exact ⟨HX1.out, HXK.out⟩
          · exact HS.out t (by omega)
        case measure =>
          have e := HST.out
          simp only [intOf, Int.toNat_natCast]
          rw [e]
          omega

theorem few_pre {xs : List Int} {n : Nat} (h : ∀ j : Nat, j < n → (j : Int) ∈ xs) : n ≤ xs.length := by
  have := nodup_le ((List.range n).map fun (j : Nat) => (j : Int)) xs (by
    rw [List.Nodup, List.pairwise_map]
    exact List.pairwise_lt_range.imp fun h => by omega) (fun x hx => by
    obtain ⟨j, hj, rfl⟩ := List.mem_map.1 hx
    exact h j (List.mem_range.1 hj))
  simpa using this

set_option maxHeartbeats 800000 in
theorem mexS_any (A : Option Addr) (c : Nat) (xs : List Int) (w : World) (B : Nat) (h : RdI w B A c xs) (hl : xs.length ≤ 1000000) :
    Calls Try.prog 65 #[.slice A xs.length c] w fun e w' => ∃ n : Nat, e = .returned (.int .i64 n) ∧ (∀ j : Nat, j < n → (j : Int) ∈ xs) ∧ (n : Int) ∉ xs ∧ w' = w := by
  have HC : Hid (∀ x : Int, Calls Try.prog 77 #[.slice A xs.length c, .int .i64 x] w fun e w' => e = .returned (.bool (decide (x ∈ xs))) ∧ w = w') := fun x => l1Has_any A c xs x w B h
  clear h
  go_enter Try.func65, Try.ntmps65
  go_wp2
  go_loop [3] (fun v => ∃ n : Nat, v = .int .i64 n ∧ ∀ j : Nat, j < n → (j : Int) ∈ xs) (fun v => xs.length + 1 - (intOf v).toNat)
  case atStart => exact ⟨0, rfl, fun j hj => by omega⟩
  case round =>
    obtain ⟨n, rfl, hn⟩ := hrel
    have hle := few_pre hn
    have HN := Lib.hid hn; clear hn
    by_cases hx : (n : Int) ∈ xs
    · have ht : decide ((n : Int) ∈ xs) = true := decide_eq_true hx
      have HX := Lib.hid hx; clear hx
      go_wp2_with (go_at_call 77; (with_reducible refine (HC.out _).mono ?_); rintro e w1 ⟨rfl, rfl⟩; rw [ht])
      go_round
      case rel => exact ⟨n + 1, by go_num, fun j hj => if e : j = n then by rw [e]; exact HX.out else HN.out j (by omega)⟩
      case measure =>
        have := few_pre (n := n + 1) fun j hj => if e : j = n then by rw [e]; exact HX.out else HN.out j (by omega)
        simp [intOf]; omega
    · have ht : decide ((n : Int) ∈ xs) = false := decide_eq_false hx
      have HX := Lib.hid hx; clear hx
      go_wp2_with (go_at_call 77; (with_reducible refine (HC.out _).mono ?_); rintro e w1 ⟨rfl, rfl⟩; rw [ht])
      go_ret
      exact ⟨n, rfl, HN.out, HX.out, rfl⟩
end Go.Proofs.Ytbledcogbkeneaa
namespace Go.Proofs.Ytbledcogbkeneaa
open Go.RowKit
set_option linter.unusedVariables false

theorem rep_set (n k : Nat) (u z : Int) (hk : k < n) : (List.replicate k u ++ List.replicate (n - k) z).set k u = List.replicate (k + 1) u ++ List.replicate (n - (k + 1)) z := by
  obtain ⟨m, rfl⟩ : ∃ m, n = k + 1 + m := ⟨n - (k + 1), by omega⟩
  rw [show k + 1 + m - k = m + 1 by omega, show k + 1 + m - (k + 1) = m by omega, List.replicate_succ, List.set_append_right _ _ (by simp)]
  simp [List.replicate_succ', List.append_assoc]
theorem Blk.at_eq {w : World} {g g' : Nat} {t : TypeId} {cs : Array Value} (h : Blk w g t cs) (e : g' = g) : Blk w.drew g' t cs := by subst e; exact h
theorem rep_full (N : Nat) (a b : Int) : List.replicate N a ++ List.replicate (N - N) b = List.replicate N a := by simp
theorem rep_none (N : Nat) (a b : Int) : List.replicate 0 a ++ List.replicate (N - 0) b = List.replicate N b := by simp
theorem ints_rep (n : Nat) (z : Int) : ints (List.replicate n z) = List.replicate n (.int .i64 z) := by simp [ints]

set_option maxRecDepth 100000 in
set_option maxHeartbeats 800000 in
theorem new_any (A : Option Addr) (c : Nat) (cs : List Int) (w : World) :
    Calls Try.prog 27 #[.slice A cs.length c] w fun e w' => ∃ g gk gv, e = .returned (.pointer (some ⟨g, 0, none⟩)) ∧ w.heap.size ≤ g ∧ w.heap.size ≤ gk ∧ w.heap.size ≤ gv ∧
      BookM w' g gk gv A c cs (List.replicate 8192 (-1)) (List.replicate 8192 0) ∧ Below w.heap.size w w' := by
  obtain ⟨C, hC⟩ : ∃ C, C = (ints (List.replicate 8192 0)).toArray := ⟨_, rfl⟩
  have hmk : ∀ w : World, (Instr.makeSlice 22 (.int .i64 8192) (.int .i64 8192)).run Try.prog w = .ok (.slice (some ⟨w.heap.size, 0, none⟩) 8192 8192) (w.alloc (.cells C 3)) := fun w => by
    have := run_make_row' (P := Try.prog) 22 3 (.int .i64 0) 8 Try.underlying22 infoInt rfl .i64 .i64 8192 (by omega) (by omega) w
    rw [made_ints, ← hC] at this
    exact this
  have HC := Lib.hid hC; clear hC
  go_enter Try.func27, Try.ntmps27
  go_wp2
  go_region
  · go_wp2
    obtain ⟨g, hg⟩ : ∃ g, g = w.heap.size + 1 + 1 := ⟨_, rfl⟩
    obtain ⟨gk, hgk⟩ : ∃ gk, gk = w.heap.size := ⟨_, rfl⟩
    obtain ⟨gv, hgv⟩ : ∃ gv, gv = w.heap.size + 1 := ⟨_, rfl⟩
    rw [← hg, ← hgv, ← hgk]
    have n1 : g ≠ gk := by omega
    have n2 : g ≠ gv := by omega
    have n3 : gk ≠ gv := by omega
    have l1 : w.heap.size ≤ g := by omega
    have l2 : w.heap.size ≤ gk := by omega
    have l3 : w.heap.size ≤ gv := by omega
    have hB : Below w.heap.size w (((w.alloc (.cells C 3)).alloc (.cells C 3)).alloc (.cells #[.slice A cs.length c, .slice (some ⟨gk, 0, none⟩) 8192 8192, .slice (some ⟨gv, 0, none⟩) 8192 8192] 62)).drew := Below.drew (((bel1 w _).alloc (by simp) _).alloc (by simp; omega) _)
    have hG : Blk (((w.alloc (.cells C 3)).alloc (.cells C 3)).alloc (.cells #[.slice A cs.length c, .slice (some ⟨gk, 0, none⟩) 8192 8192, .slice (some ⟨gv, 0, none⟩) 8192 8192] 62)).drew g 62 #[.slice A cs.length c, .slice (some ⟨gk, 0, none⟩) 8192 8192, .slice (some ⟨gv, 0, none⟩) 8192 8192] := Blk.below (B := g + 1) (Blk.new_at ((w.alloc (.cells C 3)).alloc (.cells C 3)) 62 _ (by rw [hg]; simp)) ⟨rfl, rfl, rfl, Nat.le_refl _, fun _ _ => rfl⟩ (by omega)
    have b0 : Blk (w.alloc (.cells C 3)) w.heap.size 3 C := Blk.new _ _ _
    have b1 : Blk ((w.alloc (.cells C 3)).alloc (.cells C 3)) (w.heap.size + 1) 3 C := Blk.new_at _ _ _ (by simp)
    have b2 := (b0.alloc (.cells C 3)).alloc (.cells #[.slice A cs.length c, .slice (some ⟨gk, 0, none⟩) 8192 8192, .slice (some ⟨gv, 0, none⟩) 8192 8192] 62)
    have b3 := b1.alloc (.cells #[.slice A cs.length c, .slice (some ⟨gk, 0, none⟩) 8192 8192, .slice (some ⟨gv, 0, none⟩) 8192 8192] 62)
    have hK : Blk (((w.alloc (.cells C 3)).alloc (.cells C 3)).alloc (.cells #[.slice A cs.length c, .slice (some ⟨gk, 0, none⟩) 8192 8192, .slice (some ⟨gv, 0, none⟩) 8192 8192] 62)).drew gk 3 C := by first | exact b2.at_eq hgk | exact b3.at_eq hgk
    have hV : Blk (((w.alloc (.cells C 3)).alloc (.cells C 3)).alloc (.cells #[.slice A cs.length c, .slice (some ⟨gk, 0, none⟩) 8192 8192, .slice (some ⟨gv, 0, none⟩) 8192 8192] 62)).drew gv 3 C := by first | exact b2.at_eq hgv | exact b3.at_eq hgv
    clear b0 b1 b2 b3 hg hgk hgv hmk
    generalize (((w.alloc (.cells C 3)).alloc (.cells C 3)).alloc (.cells #[.slice A cs.length c, .slice (some ⟨gk, 0, none⟩) 8192 8192, .slice (some ⟨gv, 0, none⟩) 8192 8192] 62)).drew = W at *
    obtain ⟨N, hN⟩ : ∃ N, N = 8192 := ⟨_, rfl⟩
    have hC := HC.out
    rw [← hN] at hC
    rw [hC] at hK hV
    have HN := Lib.hid hN
    clear HC hC hN
    go_loopw [4] (fun i wr => ∃ k : Nat, i = .int .i64 k ∧ k ≤ 8192 ∧ Blk wr g 62 #[.slice A cs.length c, .slice (some ⟨gk, 0, none⟩) 8192 8192, .slice (some ⟨gv, 0, none⟩) 8192 8192] ∧ Blk wr gk 3 (ints (List.replicate k (-1) ++ List.replicate (N - k) 0)).toArray ∧ Blk wr gv 3 (ints (List.replicate N 0)).toArray ∧ Below w.heap.size w wr) (fun i _ => 8192 - (intOf i).toNat)
    case atStart => exact ⟨0, rfl, by omega, hG, by rw [rep_none]; exact hK, hV, hB⟩
    case round =>
      clear hB hG hK hV
      obtain ⟨k, rfl, hk, hG, hK, hV, hB⟩ := hrel
      have q1 : wr.cell? ⟨g, 1, none⟩ = some (.slice (some ⟨gk, 0, none⟩) 8192 8192) := hG.cell 1
      by_cases hlt : k < 8192
      · obtain ⟨x, hx⟩ : ∃ x, wr.cell? ⟨gk, k, none⟩ = some (.int .i64 x) := ⟨_, (hK.cell k).trans (arr_gi _ k (by rw [List.length_append, List.length_replicate, List.length_replicate, HN.out]; omega))⟩
        have hf := hK.frozen k
        have hK2 := hK.set k (.int .i64 (-1))
        rw [arr_set, rep_set N k (-1) 0 (by rw [HN.out]; exact hlt)] at hK2
        have HK2 := Lib.hid hK2
        have HG2 := Lib.hid (hG.far (p := ⟨gk, k, none⟩) n1 (.int .i64 (-1))); have HV2 := Lib.hid (hV.far (p := ⟨gk, k, none⟩) (Ne.symm n3) (.int .i64 (-1)))
        have HB2 := Lib.hid (hB.setCell (p := ⟨gk, k, none⟩) l2 (.int .i64 (-1)))
        clear hK2 hK hG hV hB
        go_wp2
        go_roundw
        case rel => exact ⟨k + 1, by go_num, by omega, HG2.out, HK2.out, HV2.out, HB2.out⟩
        case measure => simp [intOf]; omega
      · obtain rfl : k = 8192 := by omega
        have e8 := HN.out
        rw [← e8, rep_full] at hK
        rw [e8] at hK hV
        clear e8
        have hK3 := hK
        have HK3 := Lib.hid hK3; have HG := Lib.hid hG
        clear hK hK3 hG
        go_wp2
        go_ret
        exact ⟨g, gk, gv, rfl, l1, l2, l3, ⟨HG.out, HK3.out, hV, BkOk.new cs, n1, n2, n3⟩, hB⟩
  · go_wp2
    obtain ⟨g, hg⟩ : ∃ g, g = w.heap.size + 1 + 1 := ⟨_, rfl⟩
    obtain ⟨gk, hgk⟩ : ∃ gk, gk = w.heap.size + 1 := ⟨_, rfl⟩
    obtain ⟨gv, hgv⟩ : ∃ gv, gv = w.heap.size := ⟨_, rfl⟩
    rw [← hg, ← hgk, ← hgv]
    have n1 : g ≠ gk := by omega
    have n2 : g ≠ gv := by omega
    have n3 : gk ≠ gv := by omega
    have l1 : w.heap.size ≤ g := by omega
    have l2 : w.heap.size ≤ gk := by omega
    have l3 : w.heap.size ≤ gv := by omega
    have hB : Below w.heap.size w (((w.alloc (.cells C 3)).alloc (.cells C 3)).alloc (.cells #[.slice A cs.length c, .slice (some ⟨gk, 0, none⟩) 8192 8192, .slice (some ⟨gv, 0, none⟩) 8192 8192] 62)).drew := Below.drew (((bel1 w _).alloc (by simp) _).alloc (by simp; omega) _)
    have hG : Blk (((w.alloc (.cells C 3)).alloc (.cells C 3)).alloc (.cells #[.slice A cs.length c, .slice (some ⟨gk, 0, none⟩) 8192 8192, .slice (some ⟨gv, 0, none⟩) 8192 8192] 62)).drew g 62 #[.slice A cs.length c, .slice (some ⟨gk, 0, none⟩) 8192 8192, .slice (some ⟨gv, 0, none⟩) 8192 8192] := Blk.below (B := g + 1) (Blk.new_at ((w.alloc (.cells C 3)).alloc (.cells C 3)) 62 _ (by rw [hg]; simp)) ⟨rfl, rfl, rfl, Nat.le_refl _, fun _ _ => rfl⟩ (by omega)
    have b0 : Blk (w.alloc (.cells C 3)) w.heap.size 3 C := Blk.new _ _ _
    have b1 : Blk ((w.alloc (.cells C 3)).alloc (.cells C 3)) (w.heap.size + 1) 3 C := Blk.new_at _ _ _ (by simp)
    have b2 := (b0.alloc (.cells C 3)).alloc (.cells #[.slice A cs.length c, .slice (some ⟨gk, 0, none⟩) 8192 8192, .slice (some ⟨gv, 0, none⟩) 8192 8192] 62)
    have b3 := b1.alloc (.cells #[.slice A cs.length c, .slice (some ⟨gk, 0, none⟩) 8192 8192, .slice (some ⟨gv, 0, none⟩) 8192 8192] 62)
    have hK : Blk (((w.alloc (.cells C 3)).alloc (.cells C 3)).alloc (.cells #[.slice A cs.length c, .slice (some ⟨gk, 0, none⟩) 8192 8192, .slice (some ⟨gv, 0, none⟩) 8192 8192] 62)).drew gk 3 C := by first | exact b2.at_eq hgk | exact b3.at_eq hgk
    have hV : Blk (((w.alloc (.cells C 3)).alloc (.cells C 3)).alloc (.cells #[.slice A cs.length c, .slice (some ⟨gk, 0, none⟩) 8192 8192, .slice (some ⟨gv, 0, none⟩) 8192 8192] 62)).drew gv 3 C := by first | exact b2.at_eq hgv | exact b3.at_eq hgv
    clear b0 b1 b2 b3 hg hgk hgv hmk
    generalize (((w.alloc (.cells C 3)).alloc (.cells C 3)).alloc (.cells #[.slice A cs.length c, .slice (some ⟨gk, 0, none⟩) 8192 8192, .slice (some ⟨gv, 0, none⟩) 8192 8192] 62)).drew = W at *
    obtain ⟨N, hN⟩ : ∃ N, N = 8192 := ⟨_, rfl⟩
    have hC := HC.out
    rw [← hN] at hC
    rw [hC] at hK hV
    have HN := Lib.hid hN
    clear HC hC hN
    go_loopw [4] (fun i wr => ∃ k : Nat, i = .int .i64 k ∧ k ≤ 8192 ∧ Blk wr g 62 #[.slice A cs.length c, .slice (some ⟨gk, 0, none⟩) 8192 8192, .slice (some ⟨gv, 0, none⟩) 8192 8192] ∧ Blk wr gk 3 (ints (List.replicate k (-1) ++ List.replicate (N - k) 0)).toArray ∧ Blk wr gv 3 (ints (List.replicate N 0)).toArray ∧ Below w.heap.size w wr) (fun i _ => 8192 - (intOf i).toNat)
    case atStart => exact ⟨0, rfl, by omega, hG, by rw [rep_none]; exact hK, hV, hB⟩
    case round =>
      clear hB hG hK hV
      obtain ⟨k, rfl, hk, hG, hK, hV, hB⟩ := hrel
      have q1 : wr.cell? ⟨g, 1, none⟩ = some (.slice (some ⟨gk, 0, none⟩) 8192 8192) := hG.cell 1
      by_cases hlt : k < 8192
      · obtain ⟨x, hx⟩ : ∃ x, wr.cell? ⟨gk, k, none⟩ = some (.int .i64 x) := ⟨_, (hK.cell k).trans (arr_gi _ k (by rw [List.length_append, List.length_replicate, List.length_replicate, HN.out]; omega))⟩
        have hf := hK.frozen k
        have hK2 := hK.set k (.int .i64 (-1))
        rw [arr_set, rep_set N k (-1) 0 (by rw [HN.out]; exact hlt)] at hK2
        have HK2 := Lib.hid hK2
        have HG2 := Lib.hid (hG.far (p := ⟨gk, k, none⟩) n1 (.int .i64 (-1))); have HV2 := Lib.hid (hV.far (p := ⟨gk, k, none⟩) (Ne.symm n3) (.int .i64 (-1)))
        have HB2 := Lib.hid (hB.setCell (p := ⟨gk, k, none⟩) l2 (.int .i64 (-1)))
        clear hK2 hK hG hV hB
        go_wp2
        go_roundw
        case rel => exact ⟨k + 1, by go_num, by omega, HG2.out, HK2.out, HV2.out, HB2.out⟩
        case measure => simp [intOf]; omega
      · obtain rfl : k = 8192 := by omega
        have e8 := HN.out
        rw [← e8, rep_full] at hK
        rw [e8] at hK hV
        clear e8
        have hK3 := hK
        have HK3 := Lib.hid hK3; have HG := Lib.hid hG
        clear hK hK3 hG
        go_wp2
        go_ret
        exact ⟨g, gk, gv, rfl, l1, l2, l3, ⟨HG.out, HK3.out, hV, BkOk.new cs, n1, n2, n3⟩, hB⟩
end Go.Proofs.Ytbledcogbkeneaa
namespace Go.Proofs.Ytbledcogbkeneaa
open Go.RowKit
set_option linter.unusedVariables false

theorem ints_one {l : List Int} {u : Value} (h : u ∈ ints l) : u.oneCell' = true := by
  simp [ints] at h
  obtain ⟨y, -, rfl⟩ := h
  rfl
theorem rfl_srt0 (xs : List Int) : srt (nz (xs.take 0)) = [] := by simp [srt, nz]
theorem nz_len_le (xs : List Int) (i : Nat) : (srt (nz (xs.take i))).length ≤ xs.length := by
  rw [srt_len]
  exact Nat.le_trans (nz_len _) (by rw [List.length_take]; omega)

set_option maxRecDepth 100000 in
set_option maxHeartbeats 1600000 in
theorem sortS_any (A : Option Addr) (c : Nat) (xs : List Int) (w : World) (B : Nat) (hB : B ≤ w.heap.size) (h : RdI w B A c xs) (hl : xs.length ≤ 1000000) :
    Calls Try.prog 48 #[.slice A xs.length c] w (RetI w (srt (nz xs))) := by
  have h1 := h.len
  have h2 := h.max
  go_enter Try.func48, Try.ntmps48
  go_wp2
  go_loopw [3, 4] (fun v s wr => ∃ (i : Nat) (A1 : Option Addr) (c1 : Nat), s = .int .i64 i ∧ i ≤ xs.length ∧ v = .slice A1 (srt (nz (xs.take i))).length c1 ∧ Own wr w.heap.size 3 (.slice A1 (srt (nz (xs.take i))).length c1) (ints (srt (nz (xs.take i)))) ∧ Below w.heap.size w wr) (fun _ s _ => xs.length - (intOf s).toNat)
  case atStart =>
    have e0 : srt (nz (xs.take 0)) = [] := rfl_srt0 xs
    refine ⟨0, some ⟨w.heap.size, 0, none⟩, 0, rfl, by omega, by rw [e0]; rfl, ?_, bel1 w _⟩
    rw [e0]
    exact Own.empty w 3 3 _ (Nat.le_refl _)
  case round =>
    obtain ⟨i, A1, c1, rfl, hi, rfl, ho, hb⟩ := hrel
    have hlen := nz_len_le xs i
    by_cases hlt : i < xs.length
    · obtain ⟨bx, ox, rfl, hbx, hc⟩ := (h.below hb hB).at (j := i) hlt
      have hcx := hc i hlt
      clear hc
      obtain ⟨x, hx⟩ : ∃ x, x = gi xs i := ⟨_, rfl⟩
      rw [← hx] at hcx
      have hnz := nz_snoc (xs.take i) x
      rw [hx, ← take_succ_gi xs i hlt, ← hx] at hnz
      by_cases hx0 : x = 0
      · rw [if_pos hx0] at hnz
        have ht : (x == 0) = true := by simp [hx0]
        have HNZ := Lib.hid hnz; have HO := Lib.hid ho
        clear hnz ho hx0 hx h
        go_wp2
        go_roundw
        case rel => exact ⟨i + 1, A1, c1, by go_num, by omega, by rw [HNZ.out], by rw [HNZ.out]; exact HO.out, hb⟩
        case measure => simp [intOf]; omega
      · rw [if_neg hx0] at hnz
        have ht : (x == 0) = false := by simp [hx0]
        have hins : ∀ k, (∀ j, j < k → gi (srt (nz (xs.take i))) j < x) → (k < (srt (nz (xs.take i))).length → x ≤ gi (srt (nz (xs.take i))) k) → srt (nz (xs.take (i + 1))) = (srt (nz (xs.take i))).take k ++ [x] ++ (srt (nz (xs.take i))).drop k := fun k k1 k2 => by
          rw [hnz]; exact srt_ins _ x k k1 k2
        have HINS := Lib.hid hins
        have HB := Lib.hid hb
        clear hins hnz hx0 hx
        obtain ⟨l', hl'⟩ : ∃ l', l' = srt (nz (xs.take (i + 1))) := ⟨_, rfl⟩
        rw [← hl'] at HINS
        have HL' := Lib.hid hl'
        clear hl'
        generalize srt (nz (xs.take i)) = l at *
        go_wp2
        obtain ⟨w1, rfl⟩ : ∃ w1, w1 = wr := ⟨_, rfl⟩
        have hzx := hb.size
        go_loopw [5] (fun s w2 => ∃ k : Nat, s = .int .i64 k ∧ k ≤ l.length ∧ (∀ j, j < k → gi l j < x) ∧ Below w1.heap.size w1 w2) (fun s _ => l.length - (intOf s).toNat)
        case atStart => exact ⟨0, rfl, by omega, fun j hj => by omega, Below.refl _ _⟩
        case round =>
          obtain ⟨k, rfl, hk0, hs, hb2⟩ := hrel
          obtain ⟨wa, rfl⟩ : ∃ wa, wa = wr := ⟨_, rfl⟩
          have HS := Lib.hid hs; clear hs
          have ho2 := ho.below hb2
          have hz2 := hb2.size
          have hcx2 := (hb2.cell (p := ⟨bx, ox + i, none⟩) (show bx < _ by omega)).trans hcx
          have HB2 := Lib.hid (hb.trans (hb2.mono hzx))
          have hrdl := (own_ints.2 ho2).rd rfl
          by_cases hkl : k < l.length
          · obtain ⟨bl, ol, hAl, hbl, hcl⟩ := hrdl.at (j := k) hkl
            have hck := hcl k hkl
            subst hAl
            clear hcl
            have hrl := hrdl.len
            have hrm := hrdl.max
            by_cases hlx : gi l k < x
            · have HLX := Lib.hid hlx
              have HO2 := Lib.hid ho2; have HO := Lib.hid ho
              have hltI : (k : Int) < (l.length : Int) := by omega
              clear ho2 ho hrdl h
              go_wp2
              go_quiet (fail)
              go_wp2
              go_roundw
              case rel => exact ⟨k + 1, by go_num, by omega, fun j hj => if hjk : j = k then by rw [hjk]; exact HLX.out else HS.out j (by omega), bdrew hb2 _⟩
              case measure => simp [intOf]; omega
            · have HNo : Hid (l' = l.take k ++ [x] ++ l.drop k) := HINS.out k HS.out fun _ => by omega
              have hck' : ¬ c1 = k := by omega
              have hltI : (k : Int) < (l.length : Int) := by omega
              have hdx : decide (gi l k < x) = false := decide_eq_false hlx
              have HO := Lib.hid ho
              clear ho hrdl hrl hrm
              go_wp2
              go_quiet (fail)
              have hd := bdrew (Below.refl wa.heap.size wa) nq
              have hoW := ho2.below hd
              have hcxW := (hd.cell (p := ⟨bx, ox + i, none⟩) (show bx < wa.heap.size by omega)).trans hcx2
              have HBW := Lib.hid (HB2.out.trans (hd.mono HB2.out.size))
              have hzW : bx < (wa.drewN nq).heap.size := by have := hd.size; omega
              clear ho2 hcx2 HB2 hd
              generalize wa.drewN nq = w2 at *
              have ho2 := hoW; have hcx2 := hcxW; have HB2 := HBW
              clear hoW hcxW HBW
              clear hck HO hltI hdx hlx
              go_wp2
              have hrd : Rd w2 w2.heap.size _ _ (ints l) := ho2.rd
              have hlc := hrd.1
              have hcm := hrd.max
              rw [ints_len] at hlc
              have hkI : (0 : Int) ≤ (k : Int) := by omega
              have hkl : (k : Int) ≤ (l.length : Int) := by omega
              have hkc : (k : Int) ≤ (c1 : Int) := by omega
              have hlcI : (l.length : Int) ≤ (c1 : Int) := by omega
              have E5 : Hid (([] : List Value).length + ((ints l).take k).length = k) := by show _ = _; rw [List.length_nil, List.length_take, ints_len]; omega
              have E6 : Hid (([] ++ (ints l).take k : List Value).length + [Value.int .i64 x].length = k + 1) := by show _ = _; rw [List.nil_append, List.length_take, List.length_singleton, ints_len]; omega
              have E7 : Hid (([] ++ (ints l).take k ++ [Value.int .i64 x] : List Value).length + ((ints l).drop k).length = l.length + 1) := by show _ = _; rw [List.nil_append, List.length_append, List.length_take, List.length_singleton, List.length_drop, ints_len]; omega
              have HCX : Hid (∀ w', Below w2.heap.size w2 w' → w'.cell? ⟨bx, ox + i, none⟩ = some (.int .i64 x)) := fun w' hb => (hb.cell (p := ⟨bx, ox + i, none⟩) (show bx < _ by omega)).trans hcx2
              clear hk0
              go_region_held3 (fun w' => w'.cell? ⟨bx, ox + i, none⟩ = some (.int .i64 x)) (go_keep)
                (first
                  | (refine step_append_rd (by rfl) (.tmp 35) (.tmp 38) 22 3 (.int .i64 0) 8 (by rfl) Try.underlying22 infoInt rfl (by omega) w2.heap.size (.slice (some ⟨_, 0, none⟩) 0 0) [] (by rfl) (by first | exact Own.of_blk (Blk.new_at _ _ _ (by simp)) (by first | (simp; done) | (simp; omega)) | exact Own.of_blk ((Blk.new_at _ _ _ (by simp)).alloc _) (by first | (simp; done) | (simp; omega))) w2.heap.size _ _ _ ((ints l).take k) (by rfl) (by first | (rw [List.length_take, ints_len]; omega) | (simp [ints_len]; done) | (simp [ints_len]; omega)) (by exact ((hrd.below (B' := w2.heap.size) (by (repeat (first | exact Below.refl _ _ | refine Below.drew ?_ | refine Below.alloc ?_ (by first | (simp; done) | (simp; omega)) _))) (by omega)).take k)) (fun u hu => ints_one (List.mem_of_mem_take hu)) (by rw [E5.out]; omega) (by first | (simp; done) | (simp; omega)) ?_; intro A5 c5 w5 ho5 hb5 hg5; rw [E5.out] at ho5 ⊢; have q5 : Below w2.heap.size w2 w5 := Below.trans (by (repeat (first | exact Below.refl _ _ | refine Below.drew ?_ | refine Below.alloc ?_ (by first | (simp; done) | (simp; omega)) _))) hb5; have s5 := HCX.out _ q5)
                  | (refine step_append_rd (by rfl) (.tmp 39) (.tmp 44) 22 3 (.int .i64 0) 8 (by rfl) Try.underlying22 infoInt rfl (by omega) w2.heap.size (.slice A5 _ c5) _ (by rfl) (by first | exact ho5 | exact ho5.below (by (repeat (first | exact Below.refl _ _ | refine Below.drew ?_ | refine Below.alloc ?_ (by first | (simp; done) | (simp; omega)) _)))) _ _ _ _ [.int .i64 x] (by rfl) rfl (by first | exact Rd.of_blk (Blk.new_at _ _ _ (by simp)) (Nat.lt_succ_self _) | exact Rd.of_blk (Blk.grownD hg5 (Blk.new_at _ _ _ (by simp)) (by simp [Value.ownBlock])) (Nat.lt_succ_self _) | exact Rd.of_blk (Blk.grownD hg5 ((Blk.new_at _ _ _ (by simp)).alloc _) (by simp [Value.ownBlock])) (Nat.lt_succ_self _)) (fun u hu => by simp at hu; subst hu; rfl) (by rw [E6.out]; omega) (by have := q5.size; first | omega | (simp; omega)) ?_; intro A6 c6 w6 ho6 hb6 hg6; rw [E6.out] at ho6 ⊢; have q6 : Below w2.heap.size w2 w6 := q5.trans (by first | exact hb6 | exact Below.trans (Below.mono (by (repeat (first | exact Below.refl _ _ | refine Below.drew ?_ | refine Below.alloc ?_ (by first | (simp; done) | (simp; omega)) _))) q5.size) hb6); have s6 := HCX.out _ q6)
                  | (refine step_append_rd (by rfl) (.tmp 45) (.tmp 48) 22 3 (.int .i64 0) 8 (by rfl) Try.underlying22 infoInt rfl (by omega) w2.heap.size (.slice A6 _ c6) _ (by rfl) ho6 w2.heap.size _ _ _ ((ints l).drop k) (by rfl) (by first | (rw [List.length_drop, ints_len]; done) | (rw [List.length_drop, ints_len]; omega) | (simp [ints_len]; omega)) (by have := (hrd.below q6 (by omega)).cut k (by rw [ints_len]; omega); first | (rw [if_neg hck'] at this; simpa [add_none] using this) | (rw [if_pos rfl] at this; simpa using this)) (fun u hu => ints_one (List.mem_of_mem_drop hu)) (by rw [E7.out]; omega) q6.size ?_; intro A7 c7 w7 ho7 hb7 hg7; rw [E7.out] at ho7 ⊢; have q7 : Below w2.heap.size w2 w7 := q6.trans hb7; have s7 := HCX.out _ q7))
              all_goals
                go_wp2
                go_roundw
                case rel =>
                  have e2 : ints (l.take k ++ [x] ++ l.drop k) = [] ++ (ints l).take k ++ [Value.int .i64 x] ++ (ints l).drop k := by simp [ints, List.map_take, List.map_drop]
                  have e3 : (l.take k ++ [x] ++ l.drop k).length = l.length + 1 := by simp; omega
                  rw [← e2, ← HNo.out] at ho7
                  rw [← HNo.out] at e3
                  have e4 := HL'.out
                  refine ⟨i + 1, A7, c7, by go_num, by omega, by rw [← e4, e3], ?_, HB2.out.trans (q7.mono HB2.out.size)⟩
                  rw [← e4, e3]
                  exact ho7.le HB2.out.size
                case measure => simp [intOf]; omega
          · have HNo : Hid (l' = l.take k ++ [x] ++ l.drop k) := HINS.out k HS.out fun hh => absurd hh hkl
            have hkl2 : l.length ≤ k := by omega
            have hdk : decide (k < l.length) = false := by simp; omega
            clear hkl
            have HO := Lib.hid ho
            clear ho hrdl
            by_cases hck' : c1 = k
            · subst c1
              obtain ⟨c1, hcc1, hcc2⟩ : ∃ c1 : Nat, k ≤ c1 ∧ l.length ≤ c1 := ⟨k, by omega, by omega⟩
              go_wp2
              go_quiet (fail)
              have hd := bdrew (Below.refl wa.heap.size wa) nq
              have hoW := ho2.below hd
              have hcxW := (hd.cell (p := ⟨bx, ox + i, none⟩) (show bx < wa.heap.size by omega)).trans hcx2
              have HBW := Lib.hid (HB2.out.trans (hd.mono HB2.out.size))
              have hzW : bx < (wa.drewN nq).heap.size := by have := hd.size; omega
              clear ho2 hcx2 HB2 hd
              generalize wa.drewN nq = w2 at *
              have ho2 := hoW; have hcx2 := hcxW; have HB2 := HBW
              clear hoW hcxW HBW
              clear HO hdk
              go_wp2
              have hrd : Rd w2 w2.heap.size _ _ (ints l) := ho2.rd
              have hlc := hrd.1
              have hcm := hrd.max
              rw [ints_len] at hlc
              have hkI : (0 : Int) ≤ (k : Int) := by omega
              have hkl : (k : Int) ≤ (l.length : Int) := by omega
              have hkc : (k : Int) ≤ (c1 : Int) := by omega
              have hlcI : (l.length : Int) ≤ (c1 : Int) := by omega
              have E5 : Hid (([] : List Value).length + ((ints l).take k).length = k) := by show _ = _; rw [List.length_nil, List.length_take, ints_len]; omega
              have E6 : Hid (([] ++ (ints l).take k : List Value).length + [Value.int .i64 x].length = k + 1) := by show _ = _; rw [List.nil_append, List.length_take, List.length_singleton, ints_len]; omega
              have E7 : Hid (([] ++ (ints l).take k ++ [Value.int .i64 x] : List Value).length + ((ints l).drop k).length = l.length + 1) := by show _ = _; rw [List.nil_append, List.length_append, List.length_take, List.length_singleton, List.length_drop, ints_len]; omega
              have HCX : Hid (∀ w', Below w2.heap.size w2 w' → w'.cell? ⟨bx, ox + i, none⟩ = some (.int .i64 x)) := fun w' hb => (hb.cell (p := ⟨bx, ox + i, none⟩) (show bx < _ by omega)).trans hcx2
              clear hk0
              go_region_held3 (fun w' => w'.cell? ⟨bx, ox + i, none⟩ = some (.int .i64 x)) (go_keep)
                (first
                  | (refine step_append_rd (by rfl) (.tmp 35) (.tmp 38) 22 3 (.int .i64 0) 8 (by rfl) Try.underlying22 infoInt rfl (by omega) w2.heap.size (.slice (some ⟨_, 0, none⟩) 0 0) [] (by rfl) (by first | exact Own.of_blk (Blk.new_at _ _ _ (by simp)) (by first | (simp; done) | (simp; omega)) | exact Own.of_blk ((Blk.new_at _ _ _ (by simp)).alloc _) (by first | (simp; done) | (simp; omega))) w2.heap.size _ _ _ ((ints l).take k) (by rfl) (by first | (rw [List.length_take, ints_len]; omega) | (simp [ints_len]; done) | (simp [ints_len]; omega)) (by exact ((hrd.below (B' := w2.heap.size) (by (repeat (first | exact Below.refl _ _ | refine Below.drew ?_ | refine Below.alloc ?_ (by first | (simp; done) | (simp; omega)) _))) (by omega)).take k)) (fun u hu => ints_one (List.mem_of_mem_take hu)) (by rw [E5.out]; omega) (by first | (simp; done) | (simp; omega)) ?_; intro A5 c5 w5 ho5 hb5 hg5; rw [E5.out] at ho5 ⊢; have q5 : Below w2.heap.size w2 w5 := Below.trans (by (repeat (first | exact Below.refl _ _ | refine Below.drew ?_ | refine Below.alloc ?_ (by first | (simp; done) | (simp; omega)) _))) hb5; have s5 := HCX.out _ q5)
                  | (refine step_append_rd (by rfl) (.tmp 39) (.tmp 44) 22 3 (.int .i64 0) 8 (by rfl) Try.underlying22 infoInt rfl (by omega) w2.heap.size (.slice A5 _ c5) _ (by rfl) (by first | exact ho5 | exact ho5.below (by (repeat (first | exact Below.refl _ _ | refine Below.drew ?_ | refine Below.alloc ?_ (by first | (simp; done) | (simp; omega)) _)))) _ _ _ _ [.int .i64 x] (by rfl) rfl (by first | exact Rd.of_blk (Blk.new_at _ _ _ (by simp)) (Nat.lt_succ_self _) | exact Rd.of_blk (Blk.grownD hg5 (Blk.new_at _ _ _ (by simp)) (by simp [Value.ownBlock])) (Nat.lt_succ_self _) | exact Rd.of_blk (Blk.grownD hg5 ((Blk.new_at _ _ _ (by simp)).alloc _) (by simp [Value.ownBlock])) (Nat.lt_succ_self _)) (fun u hu => by simp at hu; subst hu; rfl) (by rw [E6.out]; omega) (by have := q5.size; first | omega | (simp; omega)) ?_; intro A6 c6 w6 ho6 hb6 hg6; rw [E6.out] at ho6 ⊢; have q6 : Below w2.heap.size w2 w6 := q5.trans (by first | exact hb6 | exact Below.trans (Below.mono (by (repeat (first | exact Below.refl _ _ | refine Below.drew ?_ | refine Below.alloc ?_ (by first | (simp; done) | (simp; omega)) _))) q5.size) hb6); have s6 := HCX.out _ q6)
                  | (refine step_append_rd (by rfl) (.tmp 45) (.tmp 48) 22 3 (.int .i64 0) 8 (by rfl) Try.underlying22 infoInt rfl (by omega) w2.heap.size (.slice A6 _ c6) _ (by rfl) ho6 w2.heap.size _ _ _ ((ints l).drop k) (by rfl) (by first | (rw [List.length_drop, ints_len]; done) | (rw [List.length_drop, ints_len]; omega) | (simp [ints_len]; omega)) (by have := (hrd.below q6 (by omega)).cut k (by rw [ints_len]; omega); first | (rw [if_neg hck'] at this; simpa [add_none] using this) | (rw [if_pos rfl] at this; simpa using this)) (fun u hu => ints_one (List.mem_of_mem_drop hu)) (by rw [E7.out]; omega) q6.size ?_; intro A7 c7 w7 ho7 hb7 hg7; rw [E7.out] at ho7 ⊢; have q7 : Below w2.heap.size w2 w7 := q6.trans hb7; have s7 := HCX.out _ q7))
              all_goals
                go_wp2
                go_roundw
                case rel =>
                  have e2 : ints (l.take k ++ [x] ++ l.drop k) = [] ++ (ints l).take k ++ [Value.int .i64 x] ++ (ints l).drop k := by simp [ints, List.map_take, List.map_drop]
                  have e3 : (l.take k ++ [x] ++ l.drop k).length = l.length + 1 := by simp; omega
                  rw [← e2, ← HNo.out] at ho7
                  rw [← HNo.out] at e3
                  have e4 := HL'.out
                  refine ⟨i + 1, A7, c7, by go_num, by omega, by rw [← e4, e3], ?_, HB2.out.trans (q7.mono HB2.out.size)⟩
                  rw [← e4, e3]
                  exact ho7.le HB2.out.size
                case measure => simp [intOf]; omega
            · go_wp2
              go_quiet (fail)
              have hd := bdrew (Below.refl wa.heap.size wa) nq
              have hoW := ho2.below hd
              have hcxW := (hd.cell (p := ⟨bx, ox + i, none⟩) (show bx < wa.heap.size by omega)).trans hcx2
              have HBW := Lib.hid (HB2.out.trans (hd.mono HB2.out.size))
              have hzW : bx < (wa.drewN nq).heap.size := by have := hd.size; omega
              clear ho2 hcx2 HB2 hd
              generalize wa.drewN nq = w2 at *
              have ho2 := hoW; have hcx2 := hcxW; have HB2 := HBW
              clear hoW hcxW HBW
              clear HO hdk
              go_wp2
              have hrd : Rd w2 w2.heap.size _ _ (ints l) := ho2.rd
              have hlc := hrd.1
              have hcm := hrd.max
              rw [ints_len] at hlc
              have hkI : (0 : Int) ≤ (k : Int) := by omega
              have hkl : (k : Int) ≤ (l.length : Int) := by omega
              have hkc : (k : Int) ≤ (c1 : Int) := by omega
              have hlcI : (l.length : Int) ≤ (c1 : Int) := by omega
              have E5 : Hid (([] : List Value).length + ((ints l).take k).length = k) := by show _ = _; rw [List.length_nil, List.length_take, ints_len]; omega
              have E6 : Hid (([] ++ (ints l).take k : List Value).length + [Value.int .i64 x].length = k + 1) := by show _ = _; rw [List.nil_append, List.length_take, List.length_singleton, ints_len]; omega
              have E7 : Hid (([] ++ (ints l).take k ++ [Value.int .i64 x] : List Value).length + ((ints l).drop k).length = l.length + 1) := by show _ = _; rw [List.nil_append, List.length_append, List.length_take, List.length_singleton, List.length_drop, ints_len]; omega
              have HCX : Hid (∀ w', Below w2.heap.size w2 w' → w'.cell? ⟨bx, ox + i, none⟩ = some (.int .i64 x)) := fun w' hb => (hb.cell (p := ⟨bx, ox + i, none⟩) (show bx < _ by omega)).trans hcx2
              clear hk0
              go_region_held3 (fun w' => w'.cell? ⟨bx, ox + i, none⟩ = some (.int .i64 x)) (go_keep)
                (first
                  | (refine step_append_rd (by rfl) (.tmp 35) (.tmp 38) 22 3 (.int .i64 0) 8 (by rfl) Try.underlying22 infoInt rfl (by omega) w2.heap.size (.slice (some ⟨_, 0, none⟩) 0 0) [] (by rfl) (by first | exact Own.of_blk (Blk.new_at _ _ _ (by simp)) (by first | (simp; done) | (simp; omega)) | exact Own.of_blk ((Blk.new_at _ _ _ (by simp)).alloc _) (by first | (simp; done) | (simp; omega))) w2.heap.size _ _ _ ((ints l).take k) (by rfl) (by first | (rw [List.length_take, ints_len]; omega) | (simp [ints_len]; done) | (simp [ints_len]; omega)) (by exact ((hrd.below (B' := w2.heap.size) (by (repeat (first | exact Below.refl _ _ | refine Below.drew ?_ | refine Below.alloc ?_ (by first | (simp; done) | (simp; omega)) _))) (by omega)).take k)) (fun u hu => ints_one (List.mem_of_mem_take hu)) (by rw [E5.out]; omega) (by first | (simp; done) | (simp; omega)) ?_; intro A5 c5 w5 ho5 hb5 hg5; rw [E5.out] at ho5 ⊢; have q5 : Below w2.heap.size w2 w5 := Below.trans (by (repeat (first | exact Below.refl _ _ | refine Below.drew ?_ | refine Below.alloc ?_ (by first | (simp; done) | (simp; omega)) _))) hb5; have s5 := HCX.out _ q5)
                  | (refine step_append_rd (by rfl) (.tmp 39) (.tmp 44) 22 3 (.int .i64 0) 8 (by rfl) Try.underlying22 infoInt rfl (by omega) w2.heap.size (.slice A5 _ c5) _ (by rfl) (by first | exact ho5 | exact ho5.below (by (repeat (first | exact Below.refl _ _ | refine Below.drew ?_ | refine Below.alloc ?_ (by first | (simp; done) | (simp; omega)) _)))) _ _ _ _ [.int .i64 x] (by rfl) rfl (by first | exact Rd.of_blk (Blk.new_at _ _ _ (by simp)) (Nat.lt_succ_self _) | exact Rd.of_blk (Blk.grownD hg5 (Blk.new_at _ _ _ (by simp)) (by simp [Value.ownBlock])) (Nat.lt_succ_self _) | exact Rd.of_blk (Blk.grownD hg5 ((Blk.new_at _ _ _ (by simp)).alloc _) (by simp [Value.ownBlock])) (Nat.lt_succ_self _)) (fun u hu => by simp at hu; subst hu; rfl) (by rw [E6.out]; omega) (by have := q5.size; first | omega | (simp; omega)) ?_; intro A6 c6 w6 ho6 hb6 hg6; rw [E6.out] at ho6 ⊢; have q6 : Below w2.heap.size w2 w6 := q5.trans (by first | exact hb6 | exact Below.trans (Below.mono (by (repeat (first | exact Below.refl _ _ | refine Below.drew ?_ | refine Below.alloc ?_ (by first | (simp; done) | (simp; omega)) _))) q5.size) hb6); have s6 := HCX.out _ q6)
                  | (refine step_append_rd (by rfl) (.tmp 45) (.tmp 48) 22 3 (.int .i64 0) 8 (by rfl) Try.underlying22 infoInt rfl (by omega) w2.heap.size (.slice A6 _ c6) _ (by rfl) ho6 w2.heap.size _ _ _ ((ints l).drop k) (by rfl) (by first | (rw [List.length_drop, ints_len]; done) | (rw [List.length_drop, ints_len]; omega) | (simp [ints_len]; omega)) (by have := (hrd.below q6 (by omega)).cut k (by rw [ints_len]; omega); first | (rw [if_neg hck'] at this; simpa [add_none] using this) | (rw [if_pos rfl] at this; simpa using this)) (fun u hu => ints_one (List.mem_of_mem_drop hu)) (by rw [E7.out]; omega) q6.size ?_; intro A7 c7 w7 ho7 hb7 hg7; rw [E7.out] at ho7 ⊢; have q7 : Below w2.heap.size w2 w7 := q6.trans hb7; have s7 := HCX.out _ q7))
              all_goals
                go_wp2
                go_roundw
                case rel =>
                  have e2 : ints (l.take k ++ [x] ++ l.drop k) = [] ++ (ints l).take k ++ [Value.int .i64 x] ++ (ints l).drop k := by simp [ints, List.map_take, List.map_drop]
                  have e3 : (l.take k ++ [x] ++ l.drop k).length = l.length + 1 := by simp; omega
                  rw [← e2, ← HNo.out] at ho7
                  rw [← HNo.out] at e3
                  have e4 := HL'.out
                  refine ⟨i + 1, A7, c7, by go_num, by omega, by rw [← e4, e3], ?_, HB2.out.trans (q7.mono HB2.out.size)⟩
                  rw [← e4, e3]
                  exact ho7.le HB2.out.size
                case measure => simp [intOf]; omega
    · obtain rfl : i = xs.length := by omega
      rw [List.take_length] at ho ⊢
      go_wp2
      go_ret
      exact ⟨A1, c1, rfl, own_ints.2 ho, hb⟩

theorem elem_one (w : World) : (Go.sizeOf (Try.prog.elem 22)).run Try.prog w = .ok 1 w := by kernel_rfl
set_option maxRecDepth 100000 in
theorem slice_from (b o n c i : Nat) (hl : i + 1 ≤ n) (w : World) :
    (Instr.slice 22 (.slice (some ⟨b, o, none⟩) n c) (some (.int .i64 ((i : Int) + 1))) none none).run Try.prog w = .ok (.slice (if c = i + 1 then some ⟨b, o, none⟩ else some ⟨b, o + (i + 1), none⟩) (n - (i + 1)) (c - (i + 1))) w := by
  have h := run_slice_l (P := Try.prog) (w := w) 22 (some ⟨b, o, none⟩) n c Try.underlying22 .i64 ((i : Int) + 1) (by omega) (by omega)
  have e : ((i : Int) + 1).toNat = i + 1 := by omega
  rw [e] at h
  rw [h]
  have hs : (Go.sizeOf (Try.prog.elem 22)).run Try.prog w = .ok 1 w := elem_one w
  rw [hs]
  simp only [Result.andThen, sliced, Nat.mul_one, Option.map_some, add_none]
set_option maxRecDepth 100000 in
theorem slice_to (b o n c i : Nat) (hl : i ≤ c) (w : World) :
    (Instr.slice 22 (.slice (some ⟨b, o, none⟩) n c) none (some (.int .i64 (i : Int))) none).run Try.prog w = .ok (.slice (some ⟨b, o, none⟩) i c) w := by
  have h := run_slice_h (P := Try.prog) (w := w) 22 (some ⟨b, o, none⟩) n c Try.underlying22 .i64 (i : Int) (by omega) (by omega)
  rw [Int.toNat_natCast] at h
  rw [h]
  have hs : (Go.sizeOf (Try.prog.elem 22)).run Try.prog w = .ok 1 w := elem_one w
  rw [hs]
  simp only [Result.andThen, sliced, Nat.zero_mul, Nat.sub_zero, Option.map_some, add_none, Nat.add_zero]
  split <;> rfl
theorem aft_len {p mv : List Int} {i : Nat} : (aft p i mv).length = (aft0 p i mv).length := srt_len _

set_option maxRecDepth 100000 in
set_option maxHeartbeats 1600000 in
theorem afterS_any (A A' : Option Addr) (c c' i : Nat) (p mv : List Int) (w : World) (B : Nat) (hB : B ≤ w.heap.size) (h : RdI w B A c p) (h' : RdI w B A' c' mv) (hi : i < p.length) (hl : p.length ≤ 1000) (hm : mv.length ≤ 1000) (hnz : ∀ x ∈ aft0 p i mv, 1 ≤ x) :
    Calls Try.prog 64 #[.slice A p.length c, .int .i64 i, .slice A' mv.length c'] w (RetI w (aft p i mv)) := by
  have h1 := h.len
  have h2 := h.max
  have HNZ : Hid (srt (nz (aft0 p i mv)) = aft p i mv) := by show _ = _; rw [nz_self hnz]; rfl
  have HLEN : Hid ((aft0 p i mv).length ≤ 1000000) := by show _ ≤ _; unfold aft0; rw [List.length_append, List.length_append, List.length_take, List.length_drop]; omega
  clear hnz
  obtain ⟨b, o, rfl, hbB, hc⟩ := h.at (j := i) hi
  clear hc
  have hiI : (i : Int) < (p.length : Int) := by omega
  have hi0 : (0 : Int) ≤ (i : Int) := by omega
  have hi1 : (0 : Int) ≤ (i : Int) + 1 := by omega
  have hil : (i : Int) ≤ (c : Int) := by omega
  have hic : (i : Int) + 1 ≤ (c : Int) := by omega
  have hip : (i : Int) + 1 ≤ (p.length : Int) := by omega
  have hsl := slice_from b o p.length c i hi
  have hsl0 := slice_to b o p.length c i (by omega)
  have hww : IntKind.i64.wrap ((i : Int) + 1) = (i : Int) + 1 := by rw [IntKind.wrap_i64]; omega
  by_cases hck' : c = i + 1
  · rw [if_pos hck'] at hsl
    subst hck'
    go_enter Try.func64, Try.ntmps64
    go_wp2
    have hrd : Rd w B (some ⟨b, o, none⟩) _ (ints p) := h
    have E5 : Hid (([] : List Value).length + ((ints p).take i).length = i) := by show _ = _; rw [List.length_nil, List.length_take, ints_len]; omega
    have E6 : Hid (([] ++ (ints p).take i : List Value).length + ((ints p).drop (i + 1)).length = p.length - 1) := by show _ = _; rw [List.nil_append, List.length_take, List.length_drop, ints_len]; omega
    go_region_held3 (fun w' => True) (trivial)
      (first
        | (refine step_append_rd (by rfl) (.tmp 8) (.tmp 11) 22 3 (.int .i64 0) 8 (by rfl) Try.underlying22 infoInt rfl (by omega) w.heap.size (.slice (some ⟨_, 0, none⟩) 0 0) [] (by rfl) (by first | exact Own.of_blk (Blk.new_at _ _ _ (by simp)) (by first | (simp; done) | (simp; omega)) | exact Own.of_blk ((Blk.new_at _ _ _ (by simp)).alloc _) (by first | (simp; done) | (simp; omega))) B _ _ _ ((ints p).take i) (by rfl) (by first | (rw [List.length_take, ints_len]; omega) | (simp [ints_len]; done) | (simp [ints_len]; omega)) (by exact ((hrd.below (B' := w.heap.size) (by (repeat (first | exact Below.refl _ _ | refine Below.drew ?_ | refine Below.alloc ?_ (by first | (simp; done) | (simp; omega)) _))) (by omega)).take i)) (fun u hu => ints_one (List.mem_of_mem_take hu)) (by rw [E5.out]; omega) (by first | (simp; done) | (simp; omega)) ?_; intro A5 c5 w5 ho5 hb5 hg5; rw [E5.out] at ho5 ⊢; have q5 : Below w.heap.size w w5 := Below.trans (by (repeat (first | exact Below.refl _ _ | refine Below.drew ?_ | refine Below.alloc ?_ (by first | (simp; done) | (simp; omega)) _))) hb5)
        | (refine step_append_rd (by rfl) (.tmp 12) (.tmp 16) 22 3 (.int .i64 0) 8 (by rfl) Try.underlying22 infoInt rfl (by omega) w.heap.size (.slice A5 _ c5) _ (by rfl) (by first | exact ho5 | exact ho5.below (by (repeat (first | exact Below.refl _ _ | refine Below.drew ?_ | refine Below.alloc ?_ (by first | (simp; done) | (simp; omega)) _)))) B _ _ _ ((ints p).drop (i + 1)) (by rfl) (by first | (rw [List.length_drop, ints_len]; done) | (rw [List.length_drop, ints_len]; omega) | (simp [ints_len]; omega)) (by have := (hrd.below q5 (by omega)).cut (i + 1) (by rw [ints_len]; omega); first | (rw [if_neg hck'] at this; simpa [add_none] using this) | (rw [if_pos rfl] at this; simpa using this)) (fun u hu => ints_one (List.mem_of_mem_drop hu)) (by rw [E6.out]; omega) (by have := q5.size; first | omega | (simp; omega)) ?_; intro A6 c6 w6 ho6 hb6 hg6; rw [E6.out] at ho6 ⊢; have q6 : Below w.heap.size w w6 := q5.trans (by first | exact hb6 | exact Below.trans (Below.mono (by (repeat (first | exact Below.refl _ _ | refine Below.drew ?_ | refine Below.alloc ?_ (by first | (simp; done) | (simp; omega)) _))) q5.size) hb6)))
    all_goals
      have e0 : [] ++ (ints p).take i ++ (ints p).drop (i + 1) = ints (p.take i ++ p.drop (i + 1)) := by simp [ints, List.map_take, List.map_drop]
      rw [e0] at ho6
      have e1 : (p.take i ++ p.drop (i + 1)).length = p.length - 1 := by rw [List.length_append, List.length_take, List.length_drop]; omega
      have hlo : Hid ((p.take i ++ p.drop (i + 1)).length = p.length - 1) := e1
      have HAFT : Hid (p.take i ++ p.drop (i + 1) ++ mv = aft0 p i mv) := rfl
      have HE9 : Hid (ints (p.take i ++ p.drop (i + 1)) ++ ints mv = ints (aft0 p i mv)) := (List.map_append (f := Value.int .i64)).symm
      generalize p.take i ++ p.drop (i + 1) = r at *
      have hr6 := h'.below q6 hB
      have hm6 := hr6.len
      have hcm := hr6.max
      have hz6 := q6.size
      clear e0 e1 ho5 hb5 hg5 hb6 hg6 hrd
      go_wp2_with (first
        | (at_builtin; go_loud (refine wpList_append_rd rfl _ _ 22 3 (.int .i64 0) 8 rfl Try.underlying22 infoInt rfl (by omega) w.heap.size (.slice A6 (p.length - 1) c6) (ints r) rfl ho6 B A' mv.length c' (ints mv) rfl (by rw [ints_len]) hr6 (fun u hu => ints_one hu) (by rw [ints_len, ints_len, hlo.out]; omega) (by omega) ?_; intro A8 c8 w8 ho8 hb8 hg8; rw [ints_len, ints_len, ← List.length_append] at ho8 ⊢; have e9 : ints r ++ ints mv = ints (aft0 p i mv) := HE9.out; rw [e9] at ho8; rw [HAFT.out] at ho8 ⊢; have g8 := q6.trans hb8; have hz8 := g8.size))
        | (go_at_call 48; (with_reducible refine (sortS_any _ _ (aft0 p i mv) _ _ (Nat.le_refl _) ((own_ints.2 ho8).rd rfl) HLEN.out).mono ?_); rintro e w9 ⟨A9, c9, rfl, ho9, hb9⟩; rw [HNZ.out] at ho9 ⊢))
      go_ret
      exact ⟨A9, c9, rfl, (own_ints.2 ((own_ints.1 ho9).le hz8)), g8.trans (hb9.mono hz8)⟩
  · rw [if_neg hck'] at hsl
    go_enter Try.func64, Try.ntmps64
    go_wp2
    have hrd : Rd w B (some ⟨b, o, none⟩) _ (ints p) := h
    have E5 : Hid (([] : List Value).length + ((ints p).take i).length = i) := by show _ = _; rw [List.length_nil, List.length_take, ints_len]; omega
    have E6 : Hid (([] ++ (ints p).take i : List Value).length + ((ints p).drop (i + 1)).length = p.length - 1) := by show _ = _; rw [List.nil_append, List.length_take, List.length_drop, ints_len]; omega
    go_region_held3 (fun w' => True) (trivial)
      (first
        | (refine step_append_rd (by rfl) (.tmp 8) (.tmp 11) 22 3 (.int .i64 0) 8 (by rfl) Try.underlying22 infoInt rfl (by omega) w.heap.size (.slice (some ⟨_, 0, none⟩) 0 0) [] (by rfl) (by first | exact Own.of_blk (Blk.new_at _ _ _ (by simp)) (by first | (simp; done) | (simp; omega)) | exact Own.of_blk ((Blk.new_at _ _ _ (by simp)).alloc _) (by first | (simp; done) | (simp; omega))) B _ _ _ ((ints p).take i) (by rfl) (by first | (rw [List.length_take, ints_len]; omega) | (simp [ints_len]; done) | (simp [ints_len]; omega)) (by exact ((hrd.below (B' := w.heap.size) (by (repeat (first | exact Below.refl _ _ | refine Below.drew ?_ | refine Below.alloc ?_ (by first | (simp; done) | (simp; omega)) _))) (by omega)).take i)) (fun u hu => ints_one (List.mem_of_mem_take hu)) (by rw [E5.out]; omega) (by first | (simp; done) | (simp; omega)) ?_; intro A5 c5 w5 ho5 hb5 hg5; rw [E5.out] at ho5 ⊢; have q5 : Below w.heap.size w w5 := Below.trans (by (repeat (first | exact Below.refl _ _ | refine Below.drew ?_ | refine Below.alloc ?_ (by first | (simp; done) | (simp; omega)) _))) hb5)
        | (refine step_append_rd (by rfl) (.tmp 12) (.tmp 16) 22 3 (.int .i64 0) 8 (by rfl) Try.underlying22 infoInt rfl (by omega) w.heap.size (.slice A5 _ c5) _ (by rfl) (by first | exact ho5 | exact ho5.below (by (repeat (first | exact Below.refl _ _ | refine Below.drew ?_ | refine Below.alloc ?_ (by first | (simp; done) | (simp; omega)) _)))) B _ _ _ ((ints p).drop (i + 1)) (by rfl) (by first | (rw [List.length_drop, ints_len]; done) | (rw [List.length_drop, ints_len]; omega) | (simp [ints_len]; omega)) (by have := (hrd.below q5 (by omega)).cut (i + 1) (by rw [ints_len]; omega); first | (rw [if_neg hck'] at this; simpa [add_none] using this) | (rw [if_pos rfl] at this; simpa using this)) (fun u hu => ints_one (List.mem_of_mem_drop hu)) (by rw [E6.out]; omega) (by have := q5.size; first | omega | (simp; omega)) ?_; intro A6 c6 w6 ho6 hb6 hg6; rw [E6.out] at ho6 ⊢; have q6 : Below w.heap.size w w6 := q5.trans (by first | exact hb6 | exact Below.trans (Below.mono (by (repeat (first | exact Below.refl _ _ | refine Below.drew ?_ | refine Below.alloc ?_ (by first | (simp; done) | (simp; omega)) _))) q5.size) hb6)))
    all_goals
      have e0 : [] ++ (ints p).take i ++ (ints p).drop (i + 1) = ints (p.take i ++ p.drop (i + 1)) := by simp [ints, List.map_take, List.map_drop]
      rw [e0] at ho6
      have e1 : (p.take i ++ p.drop (i + 1)).length = p.length - 1 := by rw [List.length_append, List.length_take, List.length_drop]; omega
      have hlo : Hid ((p.take i ++ p.drop (i + 1)).length = p.length - 1) := e1
      have HAFT : Hid (p.take i ++ p.drop (i + 1) ++ mv = aft0 p i mv) := rfl
      have HE9 : Hid (ints (p.take i ++ p.drop (i + 1)) ++ ints mv = ints (aft0 p i mv)) := (List.map_append (f := Value.int .i64)).symm
      generalize p.take i ++ p.drop (i + 1) = r at *
      have hr6 := h'.below q6 hB
      have hm6 := hr6.len
      have hcm := hr6.max
      have hz6 := q6.size
      clear e0 e1 ho5 hb5 hg5 hb6 hg6 hrd
      go_wp2_with (first
        | (at_builtin; go_loud (refine wpList_append_rd rfl _ _ 22 3 (.int .i64 0) 8 rfl Try.underlying22 infoInt rfl (by omega) w.heap.size (.slice A6 (p.length - 1) c6) (ints r) rfl ho6 B A' mv.length c' (ints mv) rfl (by rw [ints_len]) hr6 (fun u hu => ints_one hu) (by rw [ints_len, ints_len, hlo.out]; omega) (by omega) ?_; intro A8 c8 w8 ho8 hb8 hg8; rw [ints_len, ints_len, ← List.length_append] at ho8 ⊢; have e9 : ints r ++ ints mv = ints (aft0 p i mv) := HE9.out; rw [e9] at ho8; rw [HAFT.out] at ho8 ⊢; have g8 := q6.trans hb8; have hz8 := g8.size))
        | (go_at_call 48; (with_reducible refine (sortS_any _ _ (aft0 p i mv) _ _ (Nat.le_refl _) ((own_ints.2 ho8).rd rfl) HLEN.out).mono ?_); rintro e w9 ⟨A9, c9, rfl, ho9, hb9⟩; rw [HNZ.out] at ho9 ⊢))
      go_ret
      exact ⟨A9, c9, rfl, (own_ints.2 ((own_ints.1 ho9).le hz8)), g8.trans (hb9.mono hz8)⟩
end Go.Proofs.Ytbledcogbkeneaa
