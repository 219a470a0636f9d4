/- Lemmas on worlds and slices that the walks of this seat share. Conditions: none. -/
import Derived.WalkKit
import Derived.Below
import Derived.Lib.Hide
import Derived.Deep.Draws
import Derived.Deep.QuietTactic
import Derived.BigQuiet
namespace Go.Proofs.YtdjchjmmpjofcaaDoor
open Go.RowKit
set_option linter.unusedVariables false

/-- What the walk is told of a slice of integers that came in: nil, or a row of cap cells that hold the numbers zs. -/
def IsRow (k : IntKind) (w : World) (a : Option Addr) (len cap : Nat) (zs : List Int) : Prop :=
  (a = none ∧ len = 0 ∧ cap = 0 ∧ zs = []) ∨
  ∃ x, a = some x ∧ len ≤ cap ∧ cap ≤ maxLen ∧ zs.length = cap ∧ (∀ i, i < zs.length → w.cell? (x.add i) = some (.int k (zs.getD i 0))) ∧ ∀ n ∈ zs, (Lit.int k n).wf = true

/-- Slice A of capacity c reads as the cells cs, one cell an element, all below block number B. -/
def Rd (w : World) (B : Nat) (A : Option Addr) (c : Nat) (cs : List Value) : Prop :=
  cs.length ≤ c ∧ c ≤ maxLen ∧ (A = none → c = 0) ∧ ∀ j, j < cs.length → ∃ b o, A = some ⟨b, o, none⟩ ∧ b < B ∧ ∀ i u, cs[i]? = some u → w.cell? ⟨b, o + i, none⟩ = some u

theorem Rd.len {w : World} {B c : Nat} {A : Option Addr} {cs : List Value} (h : Rd w B A c cs) : cs.length ≤ c := h.1
theorem Rd.max {w : World} {B c : Nat} {A : Option Addr} {cs : List Value} (h : Rd w B A c cs) : c ≤ 9223372036854775807 := by have := h.2.1; unfold maxLen at this; exact this
theorem Rd.at {w : World} {B c : Nat} {A : Option Addr} {cs : List Value} (h : Rd w B A c cs) {j : Nat} (hj : j < cs.length) :
    ∃ b o, A = some ⟨b, o, none⟩ ∧ b < B ∧ ∀ i u, cs[i]? = some u → w.cell? ⟨b, o + i, none⟩ = some u := h.2.2.2 j hj
theorem Rd.keep {w w' : World} {B c : Nat} {A : Option Addr} {cs : List Value} (h : Rd w B A c cs) (hk : ∀ p : Addr, p.block < B → w'.cell? p = w.cell? p) : Rd w' B A c cs :=
  ⟨h.1, h.2.1, h.2.2.1, fun j hj => by
    obtain ⟨b, o, hA, hb, hc⟩ := h.2.2.2 j hj
    exact ⟨b, o, hA, hb, fun i u hi => (hk ⟨b, o + i, none⟩ hb).trans (hc i u hi)⟩⟩
theorem Rd.below {w w' : World} {B B' c : Nat} {A : Option Addr} {cs : List Value} (h : Rd w B A c cs) (hb : Below B' w w') (hB : B ≤ B') : Rd w' B A c cs :=
  h.keep fun _ hp => hb.cell (Nat.lt_of_lt_of_le hp hB)
theorem Rd.more {w : World} {B B' c : Nat} {A : Option Addr} {cs : List Value} (h : Rd w B A c cs) (hB : B ≤ B') : Rd w B' A c cs :=
  ⟨h.1, h.2.1, h.2.2.1, fun j hj => by
    obtain ⟨b, o, hA, hb, hc⟩ := h.2.2.2 j hj
    exact ⟨b, o, hA, by omega, hc⟩⟩
theorem Rd.nil {w : World} {B : Nat} : Rd w B none 0 [] := ⟨by simp, by simp, fun _ => rfl, fun j hj => absurd hj (by simp)⟩

theorem bdrew {B : Nat} {a w : World} (h : Below B a w) (n : Nat) : Below B a (w.drewN n) := ⟨h.os, h.tape, h.output, h.size, h.block⟩
theorem gtr {a b c : World} (h : Below a.heap.size a b) (k : Below b.heap.size b c) : Below a.heap.size a c := h.trans (k.mono h.size)
theorem gdrew {a : World} : Below a.heap.size a a.drew := (Below.refl _ _).drew
theorem ret_i64 {a b : Int} (h : a = b) : Ending.returned (.int .i64 a) = .returned (.int .i64 b) := by rw [h]
theorem ret_bool {a b : Bool} (h : a = b) : Ending.returned (.bool a) = .returned (.bool b) := by rw [h]
theorem add_none (b o k : Nat) : (⟨b, o, none⟩ : Addr).add k = ⟨b, o + k, none⟩ := by unfold Addr.add; by_cases e : k = 0 <;> simp [e]
theorem Rd.take {w : World} {B c : Nat} {A : Option Addr} {cs : List Value} (h : Rd w B A c cs) (k : Nat) : Rd w B A c (cs.take k) := by
  refine ⟨Nat.le_trans (by rw [List.length_take]; omega) h.1, h.2.1, h.2.2.1, fun j hj => ?_⟩
  rw [List.length_take] at hj
  obtain ⟨b, o, hA, hb, hc⟩ := h.2.2.2 j (by omega)
  refine ⟨b, o, hA, hb, fun i u hi => hc i u ?_⟩
  rw [List.getElem?_take] at hi
  split at hi
  · exact hi
  · cases hi
theorem Rd.cut {w : World} {B c : Nat} {A : Option Addr} {cs : List Value} (h : Rd w B A c cs) (k : Nat) (hk : k ≤ cs.length) :
    Rd w B (if c = k then A else A.map (·.add k)) (c - k) (cs.drop k) := by
  have h1 := h.1
  refine ⟨by rw [List.length_drop]; omega, by have := h.2.1; omega, fun hn => ?_, fun j hj => ?_⟩
  · split at hn
    · omega
    · have : A = none := by cases A <;> simp_all
      have := h.2.2.1 this
      omega
  · rw [List.length_drop] at hj
    obtain ⟨b, o, hA, hb, hc⟩ := h.2.2.2 k (by omega)
    rw [if_neg (by omega), hA]
    refine ⟨b, o + k, by simp [add_none], hb, fun i u hi => ?_⟩
    rw [List.getElem?_drop] at hi
    have := hc _ _ hi
    rwa [← Nat.add_assoc] at this
/-- The i-th number. -/
def gi (xs : List Int) (i : Nat) : Int := xs.getD i 0
/-- Integers as cells. -/
def ints (xs : List Int) : List Value := xs.map (.int .i64)
theorem ints_len (xs : List Int) : (ints xs).length = xs.length := by simp [ints]
theorem ints_at (xs : List Int) (i : Nat) (h : i < xs.length) : (ints xs)[i]? = some (.int .i64 (gi xs i)) := by simp [ints, gi, h]
def RdI (w : World) (B : Nat) (A : Option Addr) (c : Nat) (xs : List Int) : Prop := Rd w B A c (ints xs)
theorem RdI.at {w : World} {B c : Nat} {A : Option Addr} {xs : List Int} (h : RdI w B A c xs) {j : Nat} (hj : j < xs.length) :
    ∃ b o, A = some ⟨b, o, none⟩ ∧ b < B ∧ ∀ i, i < xs.length → w.cell? ⟨b, o + i, none⟩ = some (.int .i64 (gi xs i)) := by
  obtain ⟨b, o, hA, hb, hc⟩ := Rd.at h (j := j) (by rw [ints_len]; exact hj)
  exact ⟨b, o, hA, hb, fun i hi => hc i _ (ints_at xs i hi)⟩
theorem RdI.len {w : World} {B c : Nat} {A : Option Addr} {xs : List Int} (h : RdI w B A c xs) : xs.length ≤ c := by have := h.1; rwa [ints_len] at this
theorem RdI.max {w : World} {B c : Nat} {A : Option Addr} {xs : List Int} (h : RdI w B A c xs) : c ≤ 9223372036854775807 := Rd.max h
theorem RdI.below {w w' : World} {B B' c : Nat} {A : Option Addr} {xs : List Int} (h : RdI w B A c xs) (hb : Below B' w w') (hB : B ≤ B') : RdI w' B A c xs := Rd.below h hb hB
theorem RdI.more {w : World} {B B' c : Nat} {A : Option Addr} {xs : List Int} (h : RdI w B A c xs) (hB : B ≤ B') : RdI w B' A c xs := Rd.more h hB

/-- Block g is just these cells, none frozen. -/
def Blk (w : World) (g : Nat) (t : TypeId) (cs : Array Value) : Prop := w.heap[g]? = some (.cells cs t (0, 0))
theorem Blk.lt {w : World} {g : Nat} {t : TypeId} {cs : Array Value} (h : Blk w g t cs) : g < w.heap.size := by
  rcases Nat.lt_or_ge g w.heap.size with hlt | hge
  · exact hlt
  · unfold Blk at h; rw [Array.getElem?_eq_none hge] at h; cases h
theorem Blk.cell {w : World} {g : Nat} {t : TypeId} {cs : Array Value} (h : Blk w g t cs) (i : Nat) : w.cell? ⟨g, i, none⟩ = cs[i]? := by
  unfold Blk at h; simp [World.cell?, h]
theorem Blk.frozen {w : World} {g : Nat} {t : TypeId} {cs : Array Value} (h : Blk w g t cs) (i : Nat) : w.frozen? ⟨g, i, none⟩ = false := by
  unfold Blk at h; simp [World.frozen?, h]
theorem Blk.new (w : World) (t : TypeId) (cs : Array Value) : Blk (w.alloc (.cells cs t)) w.heap.size t cs := by
  show (w.heap.push _)[w.heap.size]? = _
  simp
theorem Blk.below {w w' : World} {g B : Nat} {t : TypeId} {cs : Array Value} (h : Blk w g t cs) (hb : Below B w w') (hg : g < B) : Blk w' g t cs := (hb.block g hg).trans h
theorem Blk.alloc {w : World} {g : Nat} {t : TypeId} {cs : Array Value} (h : Blk w g t cs) (o : Obj) : Blk (w.alloc o) g t cs := (Below.heap_alloc w o g h.lt).trans h
theorem Blk.set {w : World} {g : Nat} {t : TypeId} {cs : Array Value} (h : Blk w g t cs) (i : Nat) (u : Value) : Blk (w.setCell ⟨g, i, none⟩ u) g t (cs.setIfInBounds i u) := by
  unfold Blk at h ⊢
  simp [World.setCell, Array.getElem?_modify, h]
theorem Blk.far {w : World} {g : Nat} {t : TypeId} {cs : Array Value} (h : Blk w g t cs) {p : Addr} (hp : g ≠ p.block) (u : Value) : Blk (w.setCell p u) g t cs := (Below.heap_setCell w p u g hp).trans h

theorem Rd.of_own {w : World} {base : Nat} {e : TypeId} {A : Option Addr} {n c : Nat} {cs : List Value} (h : w.ownsRow base e 1 (.slice A n c) n cs) : Rd w w.heap.size A c cs := by
  have hlen : cs.length = n := by simpa using h.1
  rcases h.2 with ⟨hv, hn⟩ | ⟨g, cap, cur, hv, hb, hg, hnc, hcm, hcs, ht⟩
  · injection hv with hA hn' hc
    subst hA; subst hc
    have : cs = [] := List.eq_nil_of_length_eq_zero (by omega)
    subst this
    exact Rd.nil
  · injection hv with hA hn' hc
    subst hA; subst hc
    have hlt : g < w.heap.size := by
      rcases Nat.lt_or_ge g w.heap.size with h' | h'
      · exact h'
      · rw [Array.getElem?_eq_none h'] at hg; cases hg
    refine ⟨by omega, hcm, fun h => by simp at h, fun j hj => ⟨g, 0, rfl, hlt, fun i u hi => ?_⟩⟩
    rw [Nat.zero_add]
    have : w.cell? ⟨g, i, none⟩ = cur[i]? := by simp [World.cell?, hg]
    rw [this]
    have hin : i < cs.length := by
      rcases Nat.lt_or_ge i cs.length with h' | h'
      · exact h'
      · rw [List.getElem?_eq_none h'] at hi; cases hi
    rw [← ht] at hi
    rw [List.getElem?_take_of_lt (by omega)] at hi
    simpa using hi
/-- The row of a new slice of integers. -/
def OwnI (w : World) (base : Nat) (v : Value) (xs : List Int) : Prop := w.ownsRow base 3 1 v xs.length (ints xs)
theorem OwnI.rd {w : World} {base : Nat} {A : Option Addr} {n c : Nat} {xs : List Int} (h : OwnI w base (.slice A n c) xs) (hn : n = xs.length) : RdI w w.heap.size A c xs := by
  subst hn
  exact Rd.of_own h
/-- A new slice of integers is handed back; nothing that was there has turned. -/
def RetI (w : World) (xs : List Int) (e : Ending) (w' : World) : Prop :=
  ∃ A c, e = .returned (.slice A xs.length c) ∧ OwnI w' w.heap.size (.slice A xs.length c) xs ∧ Below w.heap.size w w'
theorem ownsRow_below {w w' : World} {base B : Nat} {e : TypeId} {size n : Nat} {v : Value} {xs : List Value} (h : w.ownsRow base e size v n xs) (hb : Below B w w') (hg : ∀ g, v.ownBlock = some g → g < B) : w'.ownsRow base e size v n xs := by
  obtain ⟨h1, h2⟩ := h
  refine ⟨h1, ?_⟩
  rcases h2 with h2 | ⟨g, cap, cur, hv, hgb, hh, r⟩
  · exact Or.inl h2
  · exact Or.inr ⟨g, cap, cur, hv, hgb, (hb.block g (hg g (by rw [hv]; rfl))).trans hh, r⟩
theorem OwnI.below {w w' : World} {base : Nat} {v : Value} {xs : List Int} (h : OwnI w base v xs) (hb : Below w.heap.size w w') : OwnI w' base v xs :=
  ownsRow_below h hb fun g hg => (h.lt g hg).2
theorem IsRow.rd {w : World} {a : Option Addr} {len cap : Nat} {zs : List Int} (h : IsRow .i64 w a len cap zs) : RdI w w.heap.size a cap (zs.take len) ∧ (zs.take len).length = len := by
  rcases h with ⟨rfl, rfl, rfl, rfl⟩ | ⟨x, rfl, hl, hm, hz, hc, hw⟩
  · exact ⟨Rd.nil, rfl⟩
  · have hlen : (zs.take len).length = len := by rw [List.length_take]; omega
    refine ⟨⟨by rw [ints_len]; omega, hm, fun h => by simp at h, fun j hj => ?_⟩, hlen⟩
    have h0 := hc 0 (by rw [ints_len] at hj; omega)
    obtain ⟨b, o, spot⟩ := x
    have hsp : spot = none := by simpa [Addr.add] using World.cell?_spot h0
    subst hsp
    have hlt : b < w.heap.size := by
      rcases Nat.lt_or_ge b w.heap.size with h' | h'
      · exact h'
      · simp [Addr.add, World.cell?, Array.getElem?_eq_none h'] at h0
    refine ⟨b, o, rfl, hlt, fun i u hi => ?_⟩
    have hil : i < len := by
      rcases Nat.lt_or_ge i (ints (zs.take len)).length with h' | h'
      · rw [ints_len] at h'; omega
      · rw [List.getElem?_eq_none h'] at hi; cases hi
    have h1 := hc i (by omega)
    have h2 : (⟨b, o, none⟩ : Addr).add i = ⟨b, o + i, none⟩ := by unfold Addr.add; by_cases e : i = 0 <;> simp [e]
    rw [h2] at h1
    rw [h1, ← hi]
    have : i < zs.length := by omega
    simp [ints, List.getElem?_take_of_lt hil, this]

/-! A region that draws its order, its calls keeping an invariant and handing back one value whatever the world. -/
structure Wd (I : World → Prop) where
  w : World
  inv : I w
instance (w : World) : Nonempty (Wd (Below w.heap.size w)) := ⟨⟨w, Below.refl _ _⟩⟩
def inst (I : World → Prop) (x : Wd I) : World := x.w
theorem inst_inv {I : World → Prop} (x : Wd I) : I (inst I x) := x.inv
theorem wp_region_inv {P : Program} {id : Nat} {Q : Exit → Act → World → Prop} {a : Act} {w : World} {l : List Oper} (I : World → Prop) (h0 : I { w with drawn := w.drawn + 1 })
    (hm : P.follows .mixedOrders = true) (hB : Region.lexB .any l.toArray = true)
    (h : wpQuiet P l.toArray (fun w' => ∃ x : Wd I, w' = inst I x) (fun a' => ∀ w', (∃ x : Wd I, w' = inst I x) → Q .normal a' w') l a) : (Code.region id l.toArray true).wp P Q a w :=
  wp_region_quiet (C := fun w' => ∃ x : Wd I, w' = inst I x) hm hB ⟨⟨_, h0⟩, rfl⟩ (by simpa using h)
theorem inv_step {P : Program} {f : FuncId} {args : Array Value} {I R : World → Prop} {w : World} {v : Value} (h : Calls P f args w fun e w' => e = .returned v ∧ R w')
    (hR : ∀ w', R w' → I w') : Calls P f args w fun e w'' => e = .returned v ∧ ∃ x : Wd I, w'' = inst I x :=
  h.mono fun _ w' ⟨he, hr⟩ => ⟨he, ⟨w', hR w' hr⟩, rfl⟩
/-- The invariant 'all blocks that were there are as they were'. -/
theorem grow_step {P : Program} {f : FuncId} {args : Array Value} {w : World} {x : Wd (Below w.heap.size w)} {v : Value}
    (h : Calls P f args (inst (Below w.heap.size w) x) fun e w' => e = .returned v ∧ Below (inst (Below w.heap.size w) x).heap.size (inst (Below w.heap.size w) x) w') :
    Calls P f args (inst (Below w.heap.size w) x) fun e w'' => e = .returned v ∧ ∃ x' : Wd (Below w.heap.size w), w'' = inst (Below w.heap.size w) x' :=
  inv_step h fun w' hb => (inst_inv x).trans (hb.mono (inst_inv x).size)
theorem grow0 (w : World) : Below w.heap.size w { w with drawn := w.drawn + 1 } := ⟨rfl, rfl, rfl, Nat.le_refl _, fun _ _ => rfl⟩
theorem grow_cell {w : World} (b o : Nat) (h : b < w.heap.size) (x : Wd (Below w.heap.size w)) : (inst (Below w.heap.size w) x).cell? ⟨b, o, none⟩ = w.cell? ⟨b, o, none⟩ :=
  (inst_inv x).cell (p := ⟨b, o, none⟩) h
theorem grow_size {w : World} (x : Wd (Below w.heap.size w)) : w.heap.size ≤ (inst (Below w.heap.size w) x).heap.size := (inst_inv x).size
theorem grow_of {w w' : World} (h : ∃ x : Wd (Below w.heap.size w), w' = inst (Below w.heap.size w) x) : Below w.heap.size w w' := by obtain ⟨x, rfl⟩ := h; exact x.inv
end Go.Proofs.YtdjchjmmpjofcaaDoor
