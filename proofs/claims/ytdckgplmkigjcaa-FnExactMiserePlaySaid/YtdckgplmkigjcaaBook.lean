/- The reference's book of misere values: its blocks, and the frame of a step. Conditions: none. -/
import Derived.Test.YtdckgplmkigjcaaBk0
import Derived.Test.YtdckgplmkigjcaaFresh
namespace Go.Proofs.Ytdckgplmkigjcaa
open Go.RowKit
set_option linter.unusedVariables false

/-- Nothing that was there has turned but blocks a and b. -/
def Tw (w w' : World) (a b : Nat) : Prop := w'.os = w.os ∧ w'.tape = w.tape ∧ w'.output = w.output ∧ w.heap.size ≤ w'.heap.size ∧ ∀ k, k < w.heap.size → k ≠ a → k ≠ b → w'.heap[k]? = w.heap[k]?
theorem Tw.refl (w : World) (a b : Nat) : Tw w w a b := ⟨rfl, rfl, rfl, Nat.le_refl _, fun _ _ _ _ => rfl⟩
theorem Tw.trans {u v w : World} {a b : Nat} (h : Tw u v a b) (k : Tw v w a b) : Tw u w a b := by
  obtain ⟨h1, h2, h3, h4, h5⟩ := h
  obtain ⟨k1, k2, k3, k4, k5⟩ := k
  exact ⟨k1.trans h1, k2.trans h2, k3.trans h3, Nat.le_trans h4 k4, fun j hj ha hb => (k5 j (by omega) ha hb).trans (h5 j hj ha hb)⟩
theorem Tw.of_below {w w' : World} {a b : Nat} (h : Below w.heap.size w w') : Tw w w' a b := ⟨h.os, h.tape, h.output, h.size, fun k hk _ _ => h.block k hk⟩
theorem Tw.of_grown {w w' : World} {a b : Nat} {row : Option Nat} (h : w.grownBy w' row) (hr : row = none ∨ row = some a ∨ row = some b) : Tw w w' a b :=
  ⟨h.os, h.tape, h.output, h.size, fun k hk ha hb => h.block k hk (by rcases hr with e | e | e <;> rw [e] <;> simp [ha, hb])⟩
theorem Tw.size {w w' : World} {a b : Nat} (h : Tw w w' a b) : w.heap.size ≤ w'.heap.size := h.2.2.2.1
theorem Tw.set1 {w : World} {a b o : Nat} {u : Value} : Tw w (w.setCell ⟨a, o, none⟩ u) a b := ⟨rfl, rfl, rfl, by simp, fun k hk ha hb => Below.heap_setCell _ _ _ _ ha⟩
theorem Tw.set2 {w : World} {a b o : Nat} {u : Value} : Tw w (w.setCell ⟨b, o, none⟩ u) a b := ⟨rfl, rfl, rfl, by simp, fun k hk ha hb => Below.heap_setCell _ _ _ _ hb⟩
theorem Tw.below {u w w' : World} {a b : Nat} (hW : Below u.heap.size u w) (h : Tw w w' a b) (ha : u.heap.size ≤ a) (hb : u.heap.size ≤ b) : Below u.heap.size u w' :=
  hW.trans ⟨h.1, h.2.1, h.2.2.1, h.2.2.2.1, fun k hk => h.2.2.2.2 k (by have := hW.size; omega) (by omega) (by omega)⟩
theorem RdI.tw {w w' : World} {a b B c : Nat} {A : Option Addr} {xs : List Int} (h : RdI w B A c xs) (ht : Tw w w' a b) (hB : B ≤ w.heap.size) (hn : ∀ p, A = some p → p.block ≠ a ∧ p.block ≠ b) : RdI w' B A c xs := by
  refine ⟨h.1, h.2.1, h.2.2.1, fun j hj => ?_⟩
  obtain ⟨k, o, e, hb, hc⟩ := h.2.2.2 j hj
  have hne := hn _ e
  exact ⟨k, o, e, hb, fun i v hi => (World.cell?_of_block (a := ⟨k, o + i, none⟩) (ht.2.2.2.2 k (by omega) hne.1 hne.2)).trans (hc i v hi)⟩
theorem RdI.twLow {w w' : World} {a b B c : Nat} {A : Option Addr} {xs : List Int} (h : RdI w B A c xs) (ht : Tw w w' a b) (hB : B ≤ w.heap.size) (ha : B ≤ a) (hb : B ≤ b) : RdI w' B A c xs := by
  refine ⟨h.1, h.2.1, h.2.2.1, fun j hj => ?_⟩
  obtain ⟨k, o, e, hk, hc⟩ := h.2.2.2 j hj
  exact ⟨k, o, e, hk, fun i v hi => (World.cell?_of_block (a := ⟨k, o + i, none⟩) (ht.2.2.2.2 k (by omega) (by omega) (by omega))).trans (hc i v hi)⟩
theorem Rd.tw {w w' : World} {lo a b B c : Nat} {A : Option Addr} {cs : List Value} (h : Rd w B A c cs) (hl : Lo lo A) (ht : Tw w w' a b) (hB : B ≤ w.heap.size) (ha : a < lo ∨ B ≤ a) (hb : b < lo ∨ B ≤ b) : Rd w' B A c cs := by
  refine ⟨h.1, h.2.1, h.2.2.1, fun j hj => ?_⟩
  obtain ⟨k, o, e, hk, hc⟩ := h.2.2.2 j hj
  have h1 : lo ≤ k := hl _ e
  exact ⟨k, o, e, hk, fun i v hi => (World.cell?_of_block (a := ⟨k, o + i, none⟩) (ht.2.2.2.2 k (by omega) (by omega) (by omega))).trans (hc i v hi)⟩
theorem RdR.tw {w w' : World} {lo a b B c : Nat} {A : Option Addr} {xss : List (List Int)} (h : RdR w lo B A c xss) (ht : Tw w w' a b) (hB : B ≤ w.heap.size) (ha : a < lo ∨ B ≤ a) (hb : b < lo ∨ B ≤ b) : RdR w' lo B A c xss := by
  obtain ⟨cs, h1, hl, h2⟩ := h
  exact ⟨cs, h1.tw hl ht hB ha hb, hl, h2.keep fun _ _ _ k kl => Rd.tw k kl ht hB ha hb⟩
theorem Own.tw {w w' : World} {a b base : Nat} {E : TypeId} {v : Value} {cs : List Value} (h : Own w base E v cs) (ht : Tw w w' a b) (hn : ∀ k, v.ownBlock = some k → k ≠ a ∧ k ≠ b) : Own w' base E v cs := by
  have hl := h.lt
  obtain ⟨h1, h2⟩ := h
  refine ⟨h1, ?_⟩
  rcases h2 with h2 | ⟨k, cap, cur, hv, hgb, hh, r⟩
  · exact Or.inl h2
  · have hk := hl k (by rw [hv]; rfl)
    have := hn k (by rw [hv]; rfl)
    exact Or.inr ⟨k, cap, cur, hv, hgb, (ht.2.2.2.2 k hk.2 this.1 this.2).trans hh, r⟩
theorem Blk.tw {w w' : World} {a b g : Nat} {t : TypeId} {cs : Array Value} (h : Blk w g t cs) (ht : Tw w w' a b) (ha : g ≠ a) (hb : g ≠ b) : Blk w' g t cs := (ht.2.2.2.2 g h.lt ha hb).trans h
theorem FrR.tw {w w' : World} {lo a b : Nat} {E e : TypeId} {v : Value} {css : List (List Value)} (h : FrR w lo E e v css) (ht : Tw w w' a b) (ha : a < lo) (hb : b < lo) : FrR w' lo E e v css := by
  obtain ⟨cs, h1, h2, h3⟩ := h
  exact ⟨cs, h1.tw ht (fun k hk => by have := h1.lt k hk; omega), h2.keep fun _ u _ _ k => k.tw ht (fun j hj => by have := k.lt j hj; omega), h3⟩

/-- The book at block g, its lists in blocks gk and gv, at lists ks and vs. -/
def BookM (w : World) (g gk gv : Nat) (A : Option Addr) (c : Nat) (cs ks vs : List Int) : Prop :=
  Blk w g 79 #[.slice A cs.length c, .slice (some ⟨gk, 0, none⟩) 8192 8192, .slice (some ⟨gv, 0, none⟩) 8192 8192] ∧ Blk w gk 3 (ints ks).toArray ∧ Blk w gv 3 (ints vs).toArray ∧ BkOk cs ks vs ∧ g ≠ gk ∧ g ≠ gv ∧ gk ≠ gv
theorem BookM.below {w w' : World} {g gk gv c : Nat} {A : Option Addr} {cs ks vs : List Int} (h : BookM w g gk gv A c cs ks vs) (hb : Below w.heap.size w w') : BookM w' g gk gv A c cs ks vs := by
  obtain ⟨h1, h2, h3, r⟩ := h
  exact ⟨h1.below hb h1.lt, h2.below hb h2.lt, h3.below hb h3.lt, r⟩
theorem BookM.lt {w : World} {g gk gv c : Nat} {A : Option Addr} {cs ks vs : List Int} (h : BookM w g gk gv A c cs ks vs) : g < w.heap.size ∧ gk < w.heap.size ∧ gv < w.heap.size := ⟨h.1.lt, h.2.1.lt, h.2.2.1.lt⟩
theorem arr_gi (xs : List Int) (i : Nat) (h : i < xs.length) : (ints xs).toArray[i]? = some (.int .i64 (gi xs i)) := by
  have := ints_at xs i h
  simpa using this
theorem arr_set (xs : List Int) (i : Nat) (u : Int) : (ints xs).toArray.setIfInBounds i (.int .i64 u) = (ints (xs.set i u)).toArray := by
  simp [ints, List.map_set]
theorem BookM.key {w : World} {g gk gv c : Nat} {A : Option Addr} {cs ks vs : List Int} (h : BookM w g gk gv A c cs ks vs) (i : Nat) (hi : i < 8192) : w.cell? ⟨gk, i, none⟩ = some (.int .i64 (gi ks i)) := by
  rw [h.2.1.cell, arr_gi ks i (by rw [h.2.2.2.1.1]; exact hi)]
theorem BookM.val {w : World} {g gk gv c : Nat} {A : Option Addr} {cs ks vs : List Int} (h : BookM w g gk gv A c cs ks vs) (i : Nat) (hi : i < 8192) : w.cell? ⟨gv, i, none⟩ = some (.int .i64 (gi vs i)) := by
  rw [h.2.2.1.cell, arr_gi vs i (by rw [h.2.2.2.1.2.1]; exact hi)]
theorem BookM.put {w : World} {g gk gv c i : Nat} {A : Option Addr} {cs ks vs p : List Int} (h : BookM w g gk gv A c cs ks vs) (hp : Hp 20 p) (hs : SlotAt ks (ky p) i) :
    BookM ((w.setCell ⟨gk, i, none⟩ (.int .i64 (ky p))).setCell ⟨gv, i, none⟩ (.int .i64 (mz cs p : Nat))) g gk gv A c cs (ks.set i (ky p)) (vs.set i (mz cs p : Nat)) := by
  obtain ⟨h1, h2, h3, h4, e1, e2, e3⟩ := h
  refine ⟨(h1.far (p := ⟨gk, i, none⟩) e1 _).far (p := ⟨gv, i, none⟩) e2 _, ?_, ?_, slot_put h4 hp hs, e1, e2, e3⟩
  · rw [← arr_set]
    exact (h2.set i _).far (p := ⟨gv, i, none⟩) e3 _
  · rw [← arr_set]
    exact (h3.far (p := ⟨gk, i, none⟩) (Ne.symm e3) _).set i _
end Go.Proofs.Ytdckgplmkigjcaa
